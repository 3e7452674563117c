/- The walks of utf.Literal: where a literal ends, by one word. The walk of utf.Unquote: a literal's value by one word. The walk of utf.Quote. The walk of utf.Json. The walks of weirref01.digit, number, letter. The walks of weirref01.back, written, Quote, Json. -/
import Derived.Test.YtcbggkdginfakaaDoorUMa
import Derived.Test.YtcbggkdginfakaaDoorBase3
import Derived.StillTailTactics
import Derived.Deep.RegionLaw
import Derived.Test.YtcbggkdginfakaaDoorBase5
namespace Go.Proofs.YtcbggkdginfakaaDoor
open Go.RowKit
set_option linter.unusedVariables false
set_option linter.unusedSimpArgs false
theorem ret_twoL {a b c d : Int} (h1 : a = c) (h2 : b = d) : Ending.returned (.tuple #[.int .i64 a, .int .i64 b]) = .returned (.tuple #[.int .i64 c, .int .i64 d]) := by rw [h1, h2]

end Go.Proofs.YtcbggkdginfakaaDoor
namespace Go.Proofs.YtcbggkdginfakaaDoor
open Go.RowKit
set_option linter.unusedVariables false
set_option linter.unusedSimpArgs false
def strR (r : List UInt8 × Int) : Ending := .returned (.tuple #[.string ⟨r.1.toArray⟩, .int .i64 r.2])
theorem ret_strR {a : ByteArray} {b : Int} {r : List UInt8 × Int} (h1 : a.data.toList = r.1) (h2 : b = r.2) : Ending.returned (.tuple #[.string a, .int .i64 b]) = strR r := by
  unfold strR; rw [h2, ← h1]

/-- a literal is at least two bytes long and begins with a quote -/
theorem U.lit_facts (s : ByteArray) (hl : U.literal s 0 = ((s.size : Int), 0)) : 2 ≤ s.size ∧ (U.at' s 0 = 34 ∨ U.at' s 0 = 39 ∨ U.at' s 0 = 96) := by
  by_cases h0 : s.size = 0
  · rw [U.literal_out s 0 (.inr (by omega))] at hl; have := congrArg Prod.snd hl; simp [U.litR] at this
  by_cases hq : U.at' s 0 = 34 ∨ U.at' s 0 = 39 ∨ U.at' s 0 = 96
  · have h := U.literal_in s 0 (by omega) hq
    have h' : U.literal s ((0 : Nat) : Int) = ((s.size : Int), 0) := hl
    rw [h'] at h
    cases hc : U.lit s (U.at' s 0) 1 with
    | none => rw [show (0 + 1 : Nat) = 1 from rfl, hc] at h; have := congrArg Prod.snd h; simp [U.litR] at this
    | some n =>
      rw [show (0 + 1 : Nat) = 1 from rfl, hc] at h
      have := U.lit_gt s _ _ 1 n rfl hc
      have e : (s.size : Int) = (n : Int) := congrArg Prod.fst h
      exact ⟨by omega, hq⟩
  · have h := U.literal_no s 0 (by omega) (by omega)
    have h' : U.literal s ((0 : Nat) : Int) = ((s.size : Int), 0) := hl
    rw [h'] at h; have := congrArg Prod.snd h; simp [U.litR] at this

end Go.Proofs.YtcbggkdginfakaaDoor
namespace Go.Proofs.YtcbggkdginfakaaDoor
open Go.RowKit
set_option linter.unusedVariables false
set_option linter.unusedSimpArgs false

theorem and15 (r : Int) (h0 : 0 ≤ r) (h1 : r ≤ 2147483647) : bits .and .i32 r 15 = r % 16 := by
  obtain ⟨n, rfl⟩ := Int.eq_ofNat_of_zero_le h0
  have h := i32_and_nat n 15 (by omega) (by omega)
  have h2 : n &&& 15 = n % 16 := Nat.and_two_pow_sub_one_eq_mod n 4
  rw [h2] at h
  exact h.trans (by omega)
theorem U.hxN_lt : ∀ i, i < 16 → U.hxN i < 256 := by decide
theorem hexAt : ∀ (i : Nat) (h : i < (⟨#[48, 49, 50, 51, 52, 53, 54, 55, 56, 57, 97, 98, 99, 100, 101, 102]⟩ : ByteArray).size), ((⟨#[48, 49, 50, 51, 52, 53, 54, 55, 56, 57, 97, 98, 99, 100, 101, 102]⟩ : ByteArray)[i]'h).toNat = U.hxN i := by
  have : ∀ i : Fin 16, ((⟨#[48, 49, 50, 51, 52, 53, 54, 55, 56, 57, 97, 98, 99, 100, 101, 102]⟩ : ByteArray)[i.val]'i.isLt).toNat = U.hxN i := by decide +kernel
  exact fun i h => this ⟨i, h⟩

theorem run_hex (k : IntKind) (n : Int) (h0 : 0 ≤ n) (h1 : n < 16) (w : World) :
    (Instr.index 9 (.string ⟨#[48, 49, 50, 51, 52, 53, 54, 55, 56, 57, 97, 98, 99, 100, 101, 102]⟩) (.int k n)).run Tryd.prog w = .ok (.int .u8 (U.hxN n.toNat : Int)) w := by
  have hz : ((⟨#[48, 49, 50, 51, 52, 53, 54, 55, 56, 57, 97, 98, 99, 100, 101, 102]⟩ : ByteArray).size) = 16 := rfl
  rw [run_index_string _ _ _ _ _ Tryd.underlying9]
  rw [dif_pos (show 0 ≤ n ∧ n < _ by rw [hz]; omega)]
  rw [hexAt]

section
variable {P : Program} {ops : Array Oper} {o : Oper} {a : Act} {K : Act → World → Prop} {Q : Exit → Act → World → Prop} {E : Prop}
theorem step_app_lit (t e : TypeId) (z : Value) (size bytes : Nat) (ht : P.underlying t = some (.slice e)) (hinfo : (P.info? e).map (fun i => (i.zero, i.size, i.bytes)) = some (some z, size, bytes)) (hzs : z.cells.size = size) (hsz : 0 < size)
    (hgd : o.guard = none) (s x : Operand) (ho : o.op = .call { callee := .builtin .append, args := #[s, x], argTypes := #[t, t] })
    (B : Nat) (v : Value) (n : Nat) (xs : List Value) (W : World) (C : Array Value) (m : Nat) (hs : a.eval s = v) (hx : a.eval x = .slice (some ⟨W.heap.size, 0, none⟩) m m)
    (hown : W.ownsRow B e size v n xs) (hC : C.size = m * size) (h1 : ∀ u ∈ C.toList, u.oneCell' = true) (hb : (n + m) * bytes ≤ 140737488355328) (hn : n + m ≤ 140737488355328) (hB : B ≤ W.heap.size)
    (h : ∀ v' w', w'.ownsRow B e size v' (n + m) (xs ++ C.toList) → W.grownBy w' v.ownBlock → K (a.put o.dst v') w') :
    if Region.wanted o (yielded ops a.tmps) = true then Oper.wp P o a (W.alloc (.cells C e)).drew K Q else E := by
  have hw : Region.wanted o (yielded ops a.tmps) = true := by simp [Region.wanted, hgd]
  rw [if_pos hw]
  obtain ⟨i, hi, hz0, hz1, hz2⟩ := info_parts hinfo
  obtain ⟨v', w', hrun, h2, h3, _, h5⟩ := run_append_own_at (P := P) (W.alloc (.cells C e)).drew B t o.type e i z size bytes ht hi hz0 hz1 hz2 hzs hsz v n xs (hown.alloc _).drew ⟨W.heap.size, 0, none⟩ m m C.toList (by simpa using hC) (by
    intro j u hj
    rw [add_plain, Nat.zero_add]
    change (W.alloc (.cells C e)).cell? _ = _
    rw [World.cell?_alloc_mark]
    simpa using hj) h1 (by unfold maxLen; omega) hb (by change B ≤ (W.alloc (.cells C e)).heap.size; simp; omega)
  unfold Oper.wp execOp
  simp only [ho, resolve, invoke, builtin, Sem.run_bind, Sem.run_pure, Result.andThen_ok, List.map_toArray, List.map_cons, List.map_nil, hs, hx, hrun]
  exact h v' w' h2 (grown_of_alloc (W := W) (ob := .cells C e) ⟨h3.os, h3.tape, h3.output, h3.size, h3.block⟩)
end

end Go.Proofs.YtcbggkdginfakaaDoor
namespace Go.Proofs.YtcbggkdginfakaaDoor
open Go.RowKit
set_option linter.unusedVariables false
set_option linter.unusedSimpArgs false

theorem json_no (s : ByteArray) (w : World) (hs : s.size ≤ 8388608) (hv : U.valid s = false) :
    Calls Tryd.prog 34 #[.string s] w fun e w' => e = strR (U.wrS U.wrJ s) ∧ Below w.heap.size w w' := by
  have V := hd hv
  have G : Hd (U.wrS U.wrJ s = ([], 4)) := hd <| by unfold U.wrS; rw [if_neg (by simp [hv])]
  clear hv
  go_enter Tryd.func34, Tryd.ntmps34
  go_wp2_with (go_at_call 42; refine (Valid_any _ _ (by omega)).mono ?_; rintro e w1 ⟨rfl, hb1⟩; rw [V.o])
  go_ret2
  exact ⟨ret_strR (by rw [G.o]) (by rw [G.o]), by assumption⟩

set_option maxHeartbeats 3200000 in
theorem json_yes (s : ByteArray) (w : World) (hs : s.size ≤ 8388608) (hv : U.valid s = true) :
    Calls Tryd.prog 34 #[.string s] w fun e w' => e = strR (U.wrS U.wrJ s) ∧ Below w.heap.size w w' := by
  have V := hd hv
  have HG : Hd (U.wrS U.wrJ s = (34 :: s.data.toList.flatMap U.wrJ ++ [34], 0)) := hd <| by unfold U.wrS; rw [if_pos hv]
  have HV : Hd (U.vfrom s 0 = true) := hd hv
  clear hv
  go_enter Tryd.func34, Tryd.ntmps34
  go_wp2_with (go_at_call 42; refine (Valid_any _ _ (by omega)).mono ?_; rintro e w1 ⟨rfl, hb1⟩; rw [V.o])
  have hb1 : Below w.heap.size w w1 := by assumption
  have hz1 := hb1.size
  have ho0 : (w1.alloc (.cells #[.int .u8 34] 5)).ownsRow w.heap.size 5 1 (.slice (some ⟨w1.heap.size, 0, none⟩) 1 1) 1 (cellsB [34]) := World.ownsRow_lit w1 #[.int .u8 34] 1 hz1 (by decide) rfl
  obtain ⟨kk, hkk⟩ : ∃ kk, kk = (w1.alloc (.cells #[.int .u8 34] 5)).heap.size := ⟨_, rfl⟩
  have hkz : w.heap.size ≤ kk := by rw [hkk]; simp; omega
  have HIT0 : Hd (((w1.alloc (.cells #[.int .u8 34] 5)).iter s 0).heap[kk]? = some (.stringIter s 0)) := hd <| by rw [hkk]; exact World.iter_heap _ _ _
  have HB0 : Hd (Below w.heap.size w ((w1.alloc (.cells #[.int .u8 34] 5)).iter s 0)) := hd ((hb1.alloc hz1 _).alloc (by simp; omega) _)
  have HO0 := hd (ho0.alloc (.stringIter s 0))
  have hkk' : w1.heap.size + 1 = kk := by rw [hkk]; simp
  clear ho0 hb1 hkk
  rw [hkk']
  go_loopw [4] (fun v wr => ∃ (p : Nat) (bs : List UInt8), p ≤ s.size ∧ wr.heap[kk]? = some (.stringIter s p) ∧ wr.ownsRow w.heap.size 5 1 v bs.length (cellsB bs) ∧ Below w.heap.size w wr ∧ Hd (bs = 34 :: (s.data.toList.take p).flatMap U.wrJ) ∧ Hd (U.vfrom s p = true)) (fun _ wr => s.size - wr.iterPos kk)
  case atStart => exact ⟨0, [34], Nat.zero_le _, HIT0.o, HO0.o, HB0.o, hd rfl, HV⟩
  case round =>
    obtain ⟨p, bs, hpos, hit, how, hbw, hr, hvp⟩ := hrel
    have hsz : kk < wr.heap.size := (Array.getElem?_eq_some_iff.1 hit).1
    have hbl : bs.length ≤ 6 * s.size + 1 := by
      have := U.flat_len U.wrJ U.wrJ_len (s.data.toList.take p)
      rw [hr.o, List.length_cons]
      rw [List.length_take, ← Lib.size_eq] at this
      omega
    by_cases hp : p < s.size
    · have hnx : ∀ ty, (Instr.next (.pointer (some ⟨kk, 0, none⟩)) true ty).run Tryd.prog wr = _ := fun ty => Lib.run_next_any_at wr kk s p ty hit hp
      have hb1 := decode_le s p
      have hdp := U.dec_pos s p
      have hle := U.dec_le s p hp
      have gg := U.vf_good s p hp hvp.o
      have GV : Hd (U.vfrom s (p + (Utf8.decode s p).2) = true) := hd gg.2
      have GB : Hd (U.bad s p = false) := hd gg.1
      clear gg
      have hit2 := Lib.iterAt_heap wr kk s p (p + (Utf8.decode s p).2) hit
      have how2 := own_iterAt how hit (p + (Utf8.decode s p).2)
      have hbw2 := Lib.below_iterAt hbw (k := kk) hkz s (p + (Utf8.decode s p).2)
      have hzz : w.heap.size ≤ (wr.iterAt kk s (p + (Utf8.decode s p).2)).heap.size := hbw2.size
      have HIT := hd hit2
      have HIP := hd (iterPos_of hit)
      have HBW := hd hbw2
      have HNE := hd (own_ne_iter how2 hit2)
      have hbl2 : bs.length ≤ 50331649 := by omega
      clear hit hit2 hbw2 hbl
      by_cases hlow : (Utf8.decode s p).1 < 128
      · have hstep := U.flat_low U.wrJ s p hp GB.o hlow
        unfold U.run at hstep
        by_cases hA : (Utf8.decode s p).1 = 34 ∨ (Utf8.decode s p).1 = 92
        · rw [U.wrJ_back _ (by omega) hA] at hstep
          have G : Hd (bs ++ [92, UInt8.ofNat (Utf8.decode s p).1] = 34 :: (s.data.toList.take (p + (Utf8.decode s p).2)).flatMap U.wrJ) := hd <| by rw [hstep, hr.o]; rfl
          have HNEW : Hd (cellsB [92, UInt8.ofNat (Utf8.decode s p).1] = [.int .u8 92, .int .u8 (Utf8.decode s p).1]) := hd <| by simp only [cellsB, List.map_cons, List.map_nil]; rw [U.ofNat_toNat _ (by omega)]; rfl
          have hm : ((Utf8.decode s p).1 : Int) % 256 = (Utf8.decode s p).1 := by omega
          clear hstep
          rcases hA with hA | hA
          · have b1 : (((Utf8.decode s p).1 : Int) == 34) = true := by rw [hA]; rfl
            clear hA
            go_wp2_with (at_builtin; refine wpList_app_lit 35 5 (.int .u8 0) 1 1 Tryd.underlying35 info_u8 rfl (by decide) rfl _ _ rfl w.heap.size u4 bs.length (cellsB bs) (wr.iterAt kk s (p + (Utf8.decode s p).2)) #[.int .u8 92, .int .u8 (Utf8.decode s p).1] 2 rfl rfl how2 rfl ?_ ?_ ?_ hzz ?_)
            any_goals (first | omega | (simp [Value.oneCell']; done))
            intro v' w' ho' hg'
            have hit' := hd (grown_keep hg' HIT.o HNE.o)
            have hbw' := bel_grown HBW.o hg' (fun k hk => (how2.lt k hk).1)
            have HO : Hd (w'.ownsRow w.heap.size 5 1 v' (bs ++ [92, UInt8.ofNat (Utf8.decode s p).1]).length (cellsB (bs ++ [92, UInt8.ofNat (Utf8.decode s p).1]))) := hd <| by
              rw [cellsB_app, List.length_append, HNEW.o]
              exact ho'
            clear how how2 ho' hg'
            go_wp2
            go_roundw
            case rel => exact ⟨p + (Utf8.decode s p).2, bs ++ [92, UInt8.ofNat (Utf8.decode s p).1], hle, hit'.o, HO.o, hbw', G, GV⟩
            case measure => rw [iterPos_of hit'.o, HIP.o]; omega

          · have b1 : (((Utf8.decode s p).1 : Int) == 34) = false := by rw [hA]; rfl
            have b2 : (((Utf8.decode s p).1 : Int) == 92) = true := by rw [hA]; rfl
            clear hA
            go_wp2_with (at_builtin; refine wpList_app_lit 35 5 (.int .u8 0) 1 1 Tryd.underlying35 info_u8 rfl (by decide) rfl _ _ rfl w.heap.size u4 bs.length (cellsB bs) (wr.iterAt kk s (p + (Utf8.decode s p).2)) #[.int .u8 92, .int .u8 (Utf8.decode s p).1] 2 rfl rfl how2 rfl ?_ ?_ ?_ hzz ?_)
            any_goals (first | omega | (simp [Value.oneCell']; done))
            intro v' w' ho' hg'
            have hit' := hd (grown_keep hg' HIT.o HNE.o)
            have hbw' := bel_grown HBW.o hg' (fun k hk => (how2.lt k hk).1)
            have HO : Hd (w'.ownsRow w.heap.size 5 1 v' (bs ++ [92, UInt8.ofNat (Utf8.decode s p).1]).length (cellsB (bs ++ [92, UInt8.ofNat (Utf8.decode s p).1]))) := hd <| by
              rw [cellsB_app, List.length_append, HNEW.o]
              exact ho'
            clear how how2 ho' hg'
            go_wp2
            go_roundw
            case rel => exact ⟨p + (Utf8.decode s p).2, bs ++ [92, UInt8.ofNat (Utf8.decode s p).1], hle, hit'.o, HO.o, hbw', G, GV⟩
            case measure => rw [iterPos_of hit'.o, HIP.o]; omega

        by_cases hB : 8 ≤ (Utf8.decode s p).1 ∧ (Utf8.decode s p).1 ≤ 13 ∧ (Utf8.decode s p).1 ≠ 11
        · rw [U.wrJ_let _ (by omega) hB] at hstep
          have h7 : (Utf8.decode s p).1 = 8 ∨ (Utf8.decode s p).1 = 9 ∨ (Utf8.decode s p).1 = 10 ∨ (Utf8.decode s p).1 = 12 ∨ (Utf8.decode s p).1 = 13 := by omega
          clear hA hB hlow
          rcases h7 with h7 | h7 | h7 | h7 | h7
          · have hv7 : ((Utf8.decode s p).1 : Int) = 8 := by rw [h7]; rfl
            rw [h7] at hstep
            have G : Hd (bs ++ [92, 98] = 34 :: (s.data.toList.take (p + (Utf8.decode s p).2)).flatMap U.wrJ) := hd <| by rw [hstep, hr.o]; rfl
            have HNEW : Hd (cellsB [92, 98] = [.int .u8 92, .int .u8 98]) := hd rfl
            clear hstep h7
            go_wp2_with (at_builtin; refine wpList_app_lit 35 5 (.int .u8 0) 1 1 Tryd.underlying35 info_u8 rfl (by decide) rfl _ _ rfl w.heap.size u4 bs.length (cellsB bs) (wr.iterAt kk s (p + (Utf8.decode s p).2)) #[.int .u8 92, .int .u8 98] 2 rfl rfl how2 rfl ?_ ?_ ?_ hzz ?_)
            any_goals (first | omega | (simp [Value.oneCell']; done))
            intro v' w' ho' hg'
            have hit' := hd (grown_keep hg' HIT.o HNE.o)
            have hbw' := bel_grown HBW.o hg' (fun k hk => (how2.lt k hk).1)
            have HO : Hd (w'.ownsRow w.heap.size 5 1 v' (bs ++ [92, 98]).length (cellsB (bs ++ [92, 98]))) := hd <| by
              rw [cellsB_app, List.length_append, HNEW.o]
              exact ho'
            clear how how2 ho' hg'
            go_wp2
            go_roundw
            case rel => exact ⟨p + (Utf8.decode s p).2, bs ++ [92, 98], hle, hit'.o, HO.o, hbw', G, GV⟩
            case measure => rw [iterPos_of hit'.o, HIP.o]; omega
          · have hv7 : ((Utf8.decode s p).1 : Int) = 9 := by rw [h7]; rfl
            rw [h7] at hstep
            have G : Hd (bs ++ [92, 116] = 34 :: (s.data.toList.take (p + (Utf8.decode s p).2)).flatMap U.wrJ) := hd <| by rw [hstep, hr.o]; rfl
            have HNEW : Hd (cellsB [92, 116] = [.int .u8 92, .int .u8 116]) := hd rfl
            clear hstep h7
            go_wp2_with (at_builtin; refine wpList_app_lit 35 5 (.int .u8 0) 1 1 Tryd.underlying35 info_u8 rfl (by decide) rfl _ _ rfl w.heap.size u4 bs.length (cellsB bs) (wr.iterAt kk s (p + (Utf8.decode s p).2)) #[.int .u8 92, .int .u8 116] 2 rfl rfl how2 rfl ?_ ?_ ?_ hzz ?_)
            any_goals (first | omega | (simp [Value.oneCell']; done))
            intro v' w' ho' hg'
            have hit' := hd (grown_keep hg' HIT.o HNE.o)
            have hbw' := bel_grown HBW.o hg' (fun k hk => (how2.lt k hk).1)
            have HO : Hd (w'.ownsRow w.heap.size 5 1 v' (bs ++ [92, 116]).length (cellsB (bs ++ [92, 116]))) := hd <| by
              rw [cellsB_app, List.length_append, HNEW.o]
              exact ho'
            clear how how2 ho' hg'
            go_wp2
            go_roundw
            case rel => exact ⟨p + (Utf8.decode s p).2, bs ++ [92, 116], hle, hit'.o, HO.o, hbw', G, GV⟩
            case measure => rw [iterPos_of hit'.o, HIP.o]; omega
          · have hv7 : ((Utf8.decode s p).1 : Int) = 10 := by rw [h7]; rfl
            rw [h7] at hstep
            have G : Hd (bs ++ [92, 110] = 34 :: (s.data.toList.take (p + (Utf8.decode s p).2)).flatMap U.wrJ) := hd <| by rw [hstep, hr.o]; rfl
            have HNEW : Hd (cellsB [92, 110] = [.int .u8 92, .int .u8 110]) := hd rfl
            clear hstep h7
            go_wp2_with (at_builtin; refine wpList_app_lit 35 5 (.int .u8 0) 1 1 Tryd.underlying35 info_u8 rfl (by decide) rfl _ _ rfl w.heap.size u4 bs.length (cellsB bs) (wr.iterAt kk s (p + (Utf8.decode s p).2)) #[.int .u8 92, .int .u8 110] 2 rfl rfl how2 rfl ?_ ?_ ?_ hzz ?_)
            any_goals (first | omega | (simp [Value.oneCell']; done))
            intro v' w' ho' hg'
            have hit' := hd (grown_keep hg' HIT.o HNE.o)
            have hbw' := bel_grown HBW.o hg' (fun k hk => (how2.lt k hk).1)
            have HO : Hd (w'.ownsRow w.heap.size 5 1 v' (bs ++ [92, 110]).length (cellsB (bs ++ [92, 110]))) := hd <| by
              rw [cellsB_app, List.length_append, HNEW.o]
              exact ho'
            clear how how2 ho' hg'
            go_wp2
            go_roundw
            case rel => exact ⟨p + (Utf8.decode s p).2, bs ++ [92, 110], hle, hit'.o, HO.o, hbw', G, GV⟩
            case measure => rw [iterPos_of hit'.o, HIP.o]; omega
          · have hv7 : ((Utf8.decode s p).1 : Int) = 12 := by rw [h7]; rfl
            rw [h7] at hstep
            have G : Hd (bs ++ [92, 102] = 34 :: (s.data.toList.take (p + (Utf8.decode s p).2)).flatMap U.wrJ) := hd <| by rw [hstep, hr.o]; rfl
            have HNEW : Hd (cellsB [92, 102] = [.int .u8 92, .int .u8 102]) := hd rfl
            clear hstep h7
            go_wp2_with (at_builtin; refine wpList_app_lit 35 5 (.int .u8 0) 1 1 Tryd.underlying35 info_u8 rfl (by decide) rfl _ _ rfl w.heap.size u4 bs.length (cellsB bs) (wr.iterAt kk s (p + (Utf8.decode s p).2)) #[.int .u8 92, .int .u8 102] 2 rfl rfl how2 rfl ?_ ?_ ?_ hzz ?_)
            any_goals (first | omega | (simp [Value.oneCell']; done))
            intro v' w' ho' hg'
            have hit' := hd (grown_keep hg' HIT.o HNE.o)
            have hbw' := bel_grown HBW.o hg' (fun k hk => (how2.lt k hk).1)
            have HO : Hd (w'.ownsRow w.heap.size 5 1 v' (bs ++ [92, 102]).length (cellsB (bs ++ [92, 102]))) := hd <| by
              rw [cellsB_app, List.length_append, HNEW.o]
              exact ho'
            clear how how2 ho' hg'
            go_wp2
            go_roundw
            case rel => exact ⟨p + (Utf8.decode s p).2, bs ++ [92, 102], hle, hit'.o, HO.o, hbw', G, GV⟩
            case measure => rw [iterPos_of hit'.o, HIP.o]; omega
          · have hv7 : ((Utf8.decode s p).1 : Int) = 13 := by rw [h7]; rfl
            rw [h7] at hstep
            have G : Hd (bs ++ [92, 114] = 34 :: (s.data.toList.take (p + (Utf8.decode s p).2)).flatMap U.wrJ) := hd <| by rw [hstep, hr.o]; rfl
            have HNEW : Hd (cellsB [92, 114] = [.int .u8 92, .int .u8 114]) := hd rfl
            clear hstep h7
            go_wp2_with (at_builtin; refine wpList_app_lit 35 5 (.int .u8 0) 1 1 Tryd.underlying35 info_u8 rfl (by decide) rfl _ _ rfl w.heap.size u4 bs.length (cellsB bs) (wr.iterAt kk s (p + (Utf8.decode s p).2)) #[.int .u8 92, .int .u8 114] 2 rfl rfl how2 rfl ?_ ?_ ?_ hzz ?_)
            any_goals (first | omega | (simp [Value.oneCell']; done))
            intro v' w' ho' hg'
            have hit' := hd (grown_keep hg' HIT.o HNE.o)
            have hbw' := bel_grown HBW.o hg' (fun k hk => (how2.lt k hk).1)
            have HO : Hd (w'.ownsRow w.heap.size 5 1 v' (bs ++ [92, 114]).length (cellsB (bs ++ [92, 114]))) := hd <| by
              rw [cellsB_app, List.length_append, HNEW.o]
              exact ho'
            clear how how2 ho' hg'
            go_wp2
            go_roundw
            case rel => exact ⟨p + (Utf8.decode s p).2, bs ++ [92, 114], hle, hit'.o, HO.o, hbw', G, GV⟩
            case measure => rw [iterPos_of hit'.o, HIP.o]; omega
        by_cases hC : (Utf8.decode s p).1 < 32
        · rw [U.wrJ_hex _ (by omega) ⟨hC, hB⟩] at hstep
          have G : Hd (bs ++ [92, 117, 48, 48, UInt8.ofNat (U.hxN ((Utf8.decode s p).1 / 16)), UInt8.ofNat (U.hxN ((Utf8.decode s p).1 % 16))] = 34 :: (s.data.toList.take (p + (Utf8.decode s p).2)).flatMap U.wrJ) := hd <| by rw [hstep, hr.o]; rfl
          have b1 : (((Utf8.decode s p).1 : Int) == 34) = false := by rw [beq_eq_false_iff_ne]; omega
          have b2 : (((Utf8.decode s p).1 : Int) == 92) = false := by rw [beq_eq_false_iff_ne]; omega
          clear hstep
          have hC' : (Utf8.decode s p).1 < 8 ∨ (14 ≤ (Utf8.decode s p).1 ∧ (Utf8.decode s p).1 < 32) ∨ (Utf8.decode s p).1 = 11 := by omega
          have ha15 := and15 ((Utf8.decode s p).1 : Int) (by omega) (by omega)
          have x1 := fun w => run_hex .i32 ((Utf8.decode s p).1 / 16) (by omega) (by omega) w
          have x2 := fun w => run_hex .i32 ((Utf8.decode s p).1 % 16) (by omega) (by omega) w
          have HNEW : Hd (cellsB [92, 117, 48, 48, UInt8.ofNat (U.hxN ((Utf8.decode s p).1 / 16)), UInt8.ofNat (U.hxN ((Utf8.decode s p).1 % 16))] = [.int .u8 92, .int .u8 117, .int .u8 48, .int .u8 48, .int .u8 (U.hxN (((Utf8.decode s p).1 : Int) / 16).toNat : Int), .int .u8 (U.hxN (((Utf8.decode s p).1 : Int) % 16).toNat : Int)]) := hd <| by
            have e1 : (((Utf8.decode s p).1 : Int) / 16).toNat = (Utf8.decode s p).1 / 16 := by omega
            have e2 : (((Utf8.decode s p).1 : Int) % 16).toNat = (Utf8.decode s p).1 % 16 := by omega
            rw [e1, e2]
            simp only [cellsB, List.map_cons, List.map_nil]
            rw [U.ofNat_toNat _ (U.hxN_lt _ (by omega)), U.ofNat_toNat _ (U.hxN_lt _ (by omega))]; rfl
          clear hA hB hC
          rcases hC' with hC | hC | hC
          · go_wp2_with fail
            go_region_law (refine step_app_lit 35 5 (.int .u8 0) 1 1 Tryd.underlying35 info_u8 rfl (by decide) rfl (.tmp 51) (.tmp 58) rfl w.heap.size u4 bs.length (cellsB bs) (wr.iterAt kk s (p + (Utf8.decode s p).2)) _ 6 rfl rfl how2 rfl (by simp [Value.oneCell']) (by omega) (by omega) hzz ?_; intro v' w' ho' hg')
            all_goals
              have hit' := hd (grown_keep hg' HIT.o HNE.o)
              have hbw' := bel_grown HBW.o hg' (fun k hk => (how2.lt k hk).1)
              have HO : Hd (w'.ownsRow w.heap.size 5 1 v' (bs ++ [92, 117, 48, 48, UInt8.ofNat (U.hxN ((Utf8.decode s p).1 / 16)), UInt8.ofNat (U.hxN ((Utf8.decode s p).1 % 16))]).length (cellsB (bs ++ [92, 117, 48, 48, UInt8.ofNat (U.hxN ((Utf8.decode s p).1 / 16)), UInt8.ofNat (U.hxN ((Utf8.decode s p).1 % 16))]))) := hd <| by
                rw [cellsB_app, List.length_append, HNEW.o]
                exact ho'
              clear how how2 ho' hg'
              go_simp
              go_wp2
              go_roundw
              case rel => exact ⟨p + (Utf8.decode s p).2, _, hle, hit'.o, HO.o, hbw', G, GV⟩
              case measure => rw [iterPos_of hit'.o, HIP.o]; omega
          · go_wp2_with fail
            go_region_law (refine step_app_lit 35 5 (.int .u8 0) 1 1 Tryd.underlying35 info_u8 rfl (by decide) rfl (.tmp 51) (.tmp 58) rfl w.heap.size u4 bs.length (cellsB bs) (wr.iterAt kk s (p + (Utf8.decode s p).2)) _ 6 rfl rfl how2 rfl (by simp [Value.oneCell']) (by omega) (by omega) hzz ?_; intro v' w' ho' hg')
            all_goals
              have hit' := hd (grown_keep hg' HIT.o HNE.o)
              have hbw' := bel_grown HBW.o hg' (fun k hk => (how2.lt k hk).1)
              have HO : Hd (w'.ownsRow w.heap.size 5 1 v' (bs ++ [92, 117, 48, 48, UInt8.ofNat (U.hxN ((Utf8.decode s p).1 / 16)), UInt8.ofNat (U.hxN ((Utf8.decode s p).1 % 16))]).length (cellsB (bs ++ [92, 117, 48, 48, UInt8.ofNat (U.hxN ((Utf8.decode s p).1 / 16)), UInt8.ofNat (U.hxN ((Utf8.decode s p).1 % 16))]))) := hd <| by
                rw [cellsB_app, List.length_append, HNEW.o]
                exact ho'
              clear how how2 ho' hg'
              go_simp
              go_wp2
              go_roundw
              case rel => exact ⟨p + (Utf8.decode s p).2, _, hle, hit'.o, HO.o, hbw', G, GV⟩
              case measure => rw [iterPos_of hit'.o, HIP.o]; omega
          · have b3 : (((Utf8.decode s p).1 : Int) != 11) = false := by rw [hC]; rfl
            have hC1 : 11 ≤ (Utf8.decode s p).1 := by omega
            have hC2 : (Utf8.decode s p).1 ≤ 11 := by omega
            clear hC
            go_wp2_with fail
            go_region_law (refine step_app_lit 35 5 (.int .u8 0) 1 1 Tryd.underlying35 info_u8 rfl (by decide) rfl (.tmp 51) (.tmp 58) rfl w.heap.size u4 bs.length (cellsB bs) (wr.iterAt kk s (p + (Utf8.decode s p).2)) _ 6 rfl rfl how2 rfl (by simp [Value.oneCell']) (by omega) (by omega) hzz ?_; intro v' w' ho' hg')
            all_goals
              have hit' := hd (grown_keep hg' HIT.o HNE.o)
              have hbw' := bel_grown HBW.o hg' (fun k hk => (how2.lt k hk).1)
              have HO : Hd (w'.ownsRow w.heap.size 5 1 v' (bs ++ [92, 117, 48, 48, UInt8.ofNat (U.hxN ((Utf8.decode s p).1 / 16)), UInt8.ofNat (U.hxN ((Utf8.decode s p).1 % 16))]).length (cellsB (bs ++ [92, 117, 48, 48, UInt8.ofNat (U.hxN ((Utf8.decode s p).1 / 16)), UInt8.ofNat (U.hxN ((Utf8.decode s p).1 % 16))]))) := hd <| by
                rw [cellsB_app, List.length_append, HNEW.o]
                exact ho'
              clear how how2 ho' hg'
              go_simp
              go_wp2
              go_roundw
              case rel => exact ⟨p + (Utf8.decode s p).2, _, hle, hit'.o, HO.o, hbw', G, GV⟩
              case measure => rw [iterPos_of hit'.o, HIP.o]; omega
        · have hc : 32 ≤ (Utf8.decode s p).1 ∧ (Utf8.decode s p).1 ≠ 34 ∧ (Utf8.decode s p).1 ≠ 92 := by omega
          rw [U.wrJ_self _ (by omega) hc, ← U.enc_low _ hlow] at hstep
          have G : Hd (bs ++ (Utf8.encode ((Utf8.decode s p).1 : Int)).toList = 34 :: (s.data.toList.take (p + (Utf8.decode s p).2)).flatMap U.wrJ) := hd <| by rw [hstep, hr.o]; rfl
          clear hstep
          have b1 : (((Utf8.decode s p).1 : Int) == 34) = false := by rw [beq_eq_false_iff_ne]; omega
          have b2 : (((Utf8.decode s p).1 : Int) == 92) = false := by rw [beq_eq_false_iff_ne]; omega
          have hv := hd (U.good_valid s p GB.o)
          have hn : bs.length ≤ 140737488351232 := by omega
          have hr32 : 32 ≤ (Utf8.decode s p).1 := by omega
          have hcast : 32 ≤ (Utf8.decode s p).1 := hr32
          clear hA hB hC hlow hc
          go_wp2_with (go_at_call 43; refine (form_any _ hv.o w.heap.size u4 bs.length (cellsB bs) _ how2 hzz hn).mono ?_; rintro e w' ⟨v', rfl, ho', hg'⟩)
          have hit' := hd (grown_keep hg' HIT.o HNE.o)
          have hbw' := bel_grown HBW.o hg' (fun k hk => (how2.lt k hk).1)
          have HO : Hd (w'.ownsRow w.heap.size 5 1 v' (bs ++ (Utf8.encode ((Utf8.decode s p).1 : Int)).toList).length (cellsB (bs ++ (Utf8.encode ((Utf8.decode s p).1 : Int)).toList))) := hd <| by
            rw [cellsB_app, List.length_append]
            exact ho'
          clear how how2 ho' hg' hv
          go_wp2
          go_roundw
          case rel => exact ⟨p + (Utf8.decode s p).2, _, hle, hit'.o, HO.o, hbw', G, GV⟩
          case measure => rw [iterPos_of hit'.o, HIP.o]; omega
      · have hstep := U.flat_high U.wrJ U.wrJ_high s p hp GB.o (by unfold U.run; omega)
        unfold U.run at hstep
        have G : Hd (bs ++ (Utf8.encode ((Utf8.decode s p).1 : Int)).toList = 34 :: (s.data.toList.take (p + (Utf8.decode s p).2)).flatMap U.wrJ) := hd <| by rw [hstep, hr.o]; rfl
        clear hstep
        have b1 : (((Utf8.decode s p).1 : Int) == 34) = false := by rw [beq_eq_false_iff_ne]; omega
        have b2 : (((Utf8.decode s p).1 : Int) == 92) = false := by rw [beq_eq_false_iff_ne]; omega
        have hv := hd (U.good_valid s p GB.o)
        have hn : bs.length ≤ 140737488351232 := by omega
        have hr32 : 32 ≤ (Utf8.decode s p).1 := by omega
        have hcast : 32 ≤ (Utf8.decode s p).1 := hr32
        clear hlow
        go_wp2_with (go_at_call 43; refine (form_any _ hv.o w.heap.size u4 bs.length (cellsB bs) _ how2 hzz hn).mono ?_; rintro e w' ⟨v', rfl, ho', hg'⟩)
        have hit' := hd (grown_keep hg' HIT.o HNE.o)
        have hbw' := bel_grown HBW.o hg' (fun k hk => (how2.lt k hk).1)
        have HO : Hd (w'.ownsRow w.heap.size 5 1 v' (bs ++ (Utf8.encode ((Utf8.decode s p).1 : Int)).toList).length (cellsB (bs ++ (Utf8.encode ((Utf8.decode s p).1 : Int)).toList))) := hd <| by
          rw [cellsB_app, List.length_append]
          exact ho'
        clear how how2 ho' hg' hv
        go_wp2
        go_roundw
        case rel => exact ⟨p + (Utf8.decode s p).2, _, hle, hit'.o, HO.o, hbw', G, GV⟩
        case measure => rw [iterPos_of hit'.o, HIP.o]; omega
    · have hnx := fun ty => Lib.run_next_end_at (P := Tryd.prog) wr kk s p ty hit hp
      have G : Hd (bs ++ [34] = (U.wrS U.wrJ s).1) := hd <| by
        rw [HG.o, hr.o, List.take_of_length_le (by rw [← Lib.size_eq]; omega)]
      have hzz : w.heap.size ≤ wr.heap.size := hbw.size
      go_wp2_with (at_builtin; refine wpList_app_lit 35 5 (.int .u8 0) 1 1 Tryd.underlying35 info_u8 rfl (by decide) rfl _ _ rfl w.heap.size u4 bs.length (cellsB bs) _ #[.int .u8 34] 1 rfl rfl how rfl ?c1 ?c2 ?c3 hzz ?_)
      case c1 => simp [Value.oneCell']
      case c2 => omega
      case c3 => omega
      intro v' w' ho' hg'
      have hbw' := bel_grown hbw hg' (fun k hk => (how.lt k hk).1)
      have HO : w'.ownsRow w.heap.size 5 1 v' (bs ++ [34]).length (cellsB (bs ++ [34])) := by
        rw [cellsB_app, List.length_append]
        exact ho'
      have io := IsL.own HO
      have hcv := run_string_of w' 35 9 5 Tryd.underlying35 Tryd.underlying5 Tryd.underlying9 v' _ _ io
      clear how ho' hg' HO io hr
      go_wp2
      go_ret2
      exact ⟨ret_strR (by rw [← G.o]) (by rw [HG.o]), hbw'⟩
end Go.Proofs.YtcbggkdginfakaaDoor
namespace Go.Proofs.YtcbggkdginfakaaDoor
open Go.RowKit
set_option linter.unusedVariables false
set_option linter.unusedSimpArgs false
def U.numR : Option Nat → Int
  | some v => v
  | none => -1
/-- the byte behind the first place (of two) that holds c -/
def U.pairL : List UInt8 → Nat → Option Nat
  | a :: b :: r, c => if a.toNat = c then some b.toNat else U.pairL r c
  | _, _ => none
theorem U.pairL_lt : ∀ (l : List UInt8) (c v : Nat), U.pairL l c = some v → v < 256
  | a :: b :: r, c, v, h => by
    rw [U.pairL] at h
    split at h
    · cases h; exact b.toNat_lt
    · exact U.pairL_lt r c v h
  | [a], c, v, h => by simp [U.pairL] at h
  | [], c, v, h => by simp [U.pairL] at h

theorem drop_cons' (t : ByteArray) (p : Nat) (h : p < t.size) : ∃ c : UInt8, c.toNat = U.at' t p ∧ t.data.toList.drop p = c :: t.data.toList.drop (p + 1) := by
  obtain ⟨h', e⟩ := list_at t p h
  exact ⟨_, e, List.drop_eq_getElem_cons h'⟩

end Go.Proofs.YtcbggkdginfakaaDoor
namespace Go.Proofs.YtcbggkdginfakaaDoor
open Go.RowKit
set_option linter.unusedVariables false
set_option linter.unusedSimpArgs false

theorem wrap_u8 (x : Int) (h0 : 0 ≤ x) (h1 : x < 256) : IntKind.u8.wrap x = x := by
  rw [IntKind.wrap_u8]; omega
theorem ret_strV {a b : List UInt8} (h : a = b) : Ending.returned (.string ⟨a.toArray⟩) = Ending.returned (.string ⟨b.toArray⟩) := by rw [h]
theorem ret_u8 {a b : Int} (h : a = b) : Ending.returned (.int .u8 a) = Ending.returned (.int .u8 b) := by rw [h]
theorem U.backL_lt : ∀ (l : List UInt8) (c : Nat), U.backL l c < 256
  | a :: b :: r, c => by
    rw [U.backL]
    split
    · exact a.toNat_lt
    · exact U.backL_lt r c
  | [a], c => by simp [U.backL]
  | [], c => by simp [U.backL]
theorem U.take_byte (f : UInt8 → List UInt8) (s : ByteArray) (p : Nat) (h : p < s.size) : (s.data.toList.take (p + 1)).flatMap f = (s.data.toList.take p).flatMap f ++ f (UInt8.ofNat (U.at' s p)) := by
  obtain ⟨h', e⟩ := list_at s p h
  rw [List.take_succ_eq_append_getElem h', List.flatMap_append]
  simp only [List.flatMap_cons, List.flatMap_nil, List.append_nil]
  rw [← e, U.u8_of]
theorem U.wrB_back (l h : List UInt8) (d : Bool) (c : Nat) (hc : c < 256) (hb : U.backL l c ≠ 0) : U.wrB l h d (UInt8.ofNat c) = [92, UInt8.ofNat (U.backL l c)] := by
  unfold U.wrB; rw [U.ofNat_toNat _ hc, if_pos hb]
theorem U.wrB_hex (l h : List UInt8) (d : Bool) (c : Nat) (hc : c < 256) (hb : U.backL l c = 0) (hx : c < 32 ∨ (d = true ∧ c = 127)) : U.wrB l h d (UInt8.ofNat c) = h ++ [UInt8.ofNat (U.hxN (c / 16)), UInt8.ofNat (U.hxN (c % 16))] := by
  unfold U.wrB; rw [U.ofNat_toNat _ hc, if_neg (by simp [hb]), if_pos hx]
theorem U.wrB_self (l h : List UInt8) (d : Bool) (c : Nat) (hc : c < 256) (hb : U.backL l c = 0) (hx : ¬ (c < 32 ∨ (d = true ∧ c = 127))) : U.wrB l h d (UInt8.ofNat c) = [UInt8.ofNat c] := by
  unfold U.wrB; rw [U.ofNat_toNat _ hc, if_neg (by simp [hb]), if_neg hx]
theorem U.wrB_len (l h : List UInt8) (d : Bool) (hh : h.length ≤ 4) : ∀ c : Nat, c < 256 → (U.wrB l h d (UInt8.ofNat c)).length ≤ 6 := by
  intro c hc
  unfold U.wrB
  split
  · simp
  · split
    · simp; omega
    · simp

end Go.Proofs.YtcbggkdginfakaaDoor
