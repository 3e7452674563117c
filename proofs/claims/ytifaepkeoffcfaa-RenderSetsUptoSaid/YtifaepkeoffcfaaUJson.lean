/- The walk of utf.Json. -/
import Derived.Test.YtifaepkeoffcfaaUQuote
namespace Go.Proofs.Ytifaepkeoffcfaa
open Go.RowKit
set_option linter.unusedVariables false
set_option linter.unusedSimpArgs false

theorem json_no (s : ByteArray) (w : World) (hs : s.size ≤ 8388608) (hv : U.valid s = false) :
    Calls Try.prog 66 #[.string s] w fun e w' => e = strR (U.wrS U.wrJ s) ∧ Below w.heap.size w w' := by
  have V := hd hv
  have G : Hd (U.wrS U.wrJ s = ([], 4)) := hd <| by unfold U.wrS; rw [if_neg (by simp [hv])]
  clear hv
  go_enter Try.func66, Try.ntmps66
  go_wp2_with (go_at_call 61; refine (Valid_any _ _ (by omega)).mono ?_; rintro e w1 ⟨rfl, hb1⟩; rw [V.o])
  go_ret2
  exact ⟨ret_strR (by rw [G.o]) (by rw [G.o]), by assumption⟩

set_option maxHeartbeats 3200000 in
theorem json_yes (s : ByteArray) (w : World) (hs : s.size ≤ 8388608) (hv : U.valid s = true) :
    Calls Try.prog 66 #[.string s] w fun e w' => e = strR (U.wrS U.wrJ s) ∧ Below w.heap.size w w' := by
  have V := hd hv
  have HG : Hd (U.wrS U.wrJ s = (34 :: s.data.toList.flatMap U.wrJ ++ [34], 0)) := hd <| by unfold U.wrS; rw [if_pos hv]
  have HV : Hd (U.vfrom s 0 = true) := hd hv
  clear hv
  go_enter Try.func66, Try.ntmps66
  go_wp2_with (go_at_call 61; refine (Valid_any _ _ (by omega)).mono ?_; rintro e w1 ⟨rfl, hb1⟩; rw [V.o])
  have hb1 : Below w.heap.size w w1 := by assumption
  have hz1 := hb1.size
  have ho0 : (w1.alloc (.cells #[.int .u8 34] 5)).ownsRow w.heap.size 5 1 (.slice (some ⟨w1.heap.size, 0, none⟩) 1 1) 1 (cellsB [34]) := World.ownsRow_lit w1 #[.int .u8 34] 1 hz1 (by decide) rfl
  obtain ⟨kk, hkk⟩ : ∃ kk, kk = (w1.alloc (.cells #[.int .u8 34] 5)).heap.size := ⟨_, rfl⟩
  have hkz : w.heap.size ≤ kk := by rw [hkk]; simp; omega
  have HIT0 : Hd (((w1.alloc (.cells #[.int .u8 34] 5)).iter s 0).heap[kk]? = some (.stringIter s 0)) := hd <| by rw [hkk]; exact World.iter_heap _ _ _
  have HB0 : Hd (Below w.heap.size w ((w1.alloc (.cells #[.int .u8 34] 5)).iter s 0)) := hd ((hb1.alloc hz1 _).alloc (by simp; omega) _)
  have HO0 := hd (ho0.alloc (.stringIter s 0))
  have hkk' : w1.heap.size + 1 = kk := by rw [hkk]; simp
  clear ho0 hb1 hkk
  rw [hkk']
  go_loopw [4] (fun v wr => ∃ (p : Nat) (bs : List UInt8), p ≤ s.size ∧ wr.heap[kk]? = some (.stringIter s p) ∧ wr.ownsRow w.heap.size 5 1 v bs.length (cellsB bs) ∧ Below w.heap.size w wr ∧ Hd (bs = 34 :: (s.data.toList.take p).flatMap U.wrJ) ∧ Hd (U.vfrom s p = true)) (fun _ wr => s.size - wr.iterPos kk)
  case atStart => exact ⟨0, [34], Nat.zero_le _, HIT0.o, HO0.o, HB0.o, hd rfl, HV⟩
  case round =>
    obtain ⟨p, bs, hpos, hit, how, hbw, hr, hvp⟩ := hrel
    have hsz : kk < wr.heap.size := (Array.getElem?_eq_some_iff.1 hit).1
    have hbl : bs.length ≤ 6 * s.size + 1 := by
      have := U.flat_len U.wrJ U.wrJ_len (s.data.toList.take p)
      rw [hr.o, List.length_cons]
      rw [List.length_take, ← Lib.size_eq] at this
      omega
    by_cases hp : p < s.size
    · have hnx : ∀ ty, (Instr.next (.pointer (some ⟨kk, 0, none⟩)) true ty).run Try.prog wr = _ := fun ty => Lib.run_next_any_at wr kk s p ty hit hp
      have hb1 := decode_le s p
      have hdp := U.dec_pos s p
      have hle := U.dec_le s p hp
      have gg := U.vf_good s p hp hvp.o
      have GV : Hd (U.vfrom s (p + (Utf8.decode s p).2) = true) := hd gg.2
      have GB : Hd (U.bad s p = false) := hd gg.1
      clear gg
      have hit2 := Lib.iterAt_heap wr kk s p (p + (Utf8.decode s p).2) hit
      have how2 := own_iterAt how hit (p + (Utf8.decode s p).2)
      have hbw2 := Lib.below_iterAt hbw (k := kk) hkz s (p + (Utf8.decode s p).2)
      have hzz : w.heap.size ≤ (wr.iterAt kk s (p + (Utf8.decode s p).2)).heap.size := hbw2.size
      have HIT := hd hit2
      have HIP := hd (iterPos_of hit)
      have HBW := hd hbw2
      have HNE := hd (own_ne_iter how2 hit2)
      have hbl2 : bs.length ≤ 50331649 := by omega
      clear hit hit2 hbw2 hbl
      by_cases hlow : (Utf8.decode s p).1 < 128
      · have hstep := U.flat_low U.wrJ s p hp GB.o hlow
        unfold U.run at hstep
        by_cases hA : (Utf8.decode s p).1 = 34 ∨ (Utf8.decode s p).1 = 92
        · rw [U.wrJ_back _ (by omega) hA] at hstep
          have G : Hd (bs ++ [92, UInt8.ofNat (Utf8.decode s p).1] = 34 :: (s.data.toList.take (p + (Utf8.decode s p).2)).flatMap U.wrJ) := hd <| by rw [hstep, hr.o]; rfl
          have HNEW : Hd (cellsB [92, UInt8.ofNat (Utf8.decode s p).1] = [.int .u8 92, .int .u8 (Utf8.decode s p).1]) := hd <| by simp only [cellsB, List.map_cons, List.map_nil]; rw [U.ofNat_toNat _ (by omega)]; rfl
          have hm : ((Utf8.decode s p).1 : Int) % 256 = (Utf8.decode s p).1 := by omega
          clear hstep
          rcases hA with hA | hA
          · have b1 : (((Utf8.decode s p).1 : Int) == 34) = true := by rw [hA]; rfl
            clear hA
            go_wp2_with (at_builtin; refine wpList_app_lit 40 5 (.int .u8 0) 1 1 Try.underlying40 info_u8 rfl (by decide) rfl _ _ rfl w.heap.size u4 bs.length (cellsB bs) (wr.iterAt kk s (p + (Utf8.decode s p).2)) #[.int .u8 92, .int .u8 (Utf8.decode s p).1] 2 rfl rfl how2 rfl ?_ ?_ ?_ hzz ?_)
            any_goals (first | omega | (simp [Value.oneCell']; done))
            intro v' w' ho' hg'
            have hit' := hd (grown_keep hg' HIT.o HNE.o)
            have hbw' := bel_grown HBW.o hg' (fun k hk => (how2.lt k hk).1)
            have HO : Hd (w'.ownsRow w.heap.size 5 1 v' (bs ++ [92, UInt8.ofNat (Utf8.decode s p).1]).length (cellsB (bs ++ [92, UInt8.ofNat (Utf8.decode s p).1]))) := hd <| by
              rw [cellsB_app, List.length_append, HNEW.o]
              exact ho'
            clear how how2 ho' hg'
            go_wp2
            go_roundw
            case rel => exact ⟨p + (Utf8.decode s p).2, bs ++ [92, UInt8.ofNat (Utf8.decode s p).1], hle, hit'.o, HO.o, hbw', G, GV⟩
            case measure => rw [iterPos_of hit'.o, HIP.o]; omega

          · have b1 : (((Utf8.decode s p).1 : Int) == 34) = false := by rw [hA]; rfl
            have b2 : (((Utf8.decode s p).1 : Int) == 92) = true := by rw [hA]; rfl
            clear hA
            go_wp2_with (at_builtin; refine wpList_app_lit 40 5 (.int .u8 0) 1 1 Try.underlying40 info_u8 rfl (by decide) rfl _ _ rfl w.heap.size u4 bs.length (cellsB bs) (wr.iterAt kk s (p + (Utf8.decode s p).2)) #[.int .u8 92, .int .u8 (Utf8.decode s p).1] 2 rfl rfl how2 rfl ?_ ?_ ?_ hzz ?_)
            any_goals (first | omega | (simp [Value.oneCell']; done))
            intro v' w' ho' hg'
            have hit' := hd (grown_keep hg' HIT.o HNE.o)
            have hbw' := bel_grown HBW.o hg' (fun k hk => (how2.lt k hk).1)
            have HO : Hd (w'.ownsRow w.heap.size 5 1 v' (bs ++ [92, UInt8.ofNat (Utf8.decode s p).1]).length (cellsB (bs ++ [92, UInt8.ofNat (Utf8.decode s p).1]))) := hd <| by
              rw [cellsB_app, List.length_append, HNEW.o]
              exact ho'
            clear how how2 ho' hg'
            go_wp2
            go_roundw
            case rel => exact ⟨p + (Utf8.decode s p).2, bs ++ [92, UInt8.ofNat (Utf8.decode s p).1], hle, hit'.o, HO.o, hbw', G, GV⟩
            case measure => rw [iterPos_of hit'.o, HIP.o]; omega

        by_cases hB : 8 ≤ (Utf8.decode s p).1 ∧ (Utf8.decode s p).1 ≤ 13 ∧ (Utf8.decode s p).1 ≠ 11
        · rw [U.wrJ_let _ (by omega) hB] at hstep
          have h7 : (Utf8.decode s p).1 = 8 ∨ (Utf8.decode s p).1 = 9 ∨ (Utf8.decode s p).1 = 10 ∨ (Utf8.decode s p).1 = 12 ∨ (Utf8.decode s p).1 = 13 := by omega
          clear hA hB hlow
          rcases h7 with h7 | h7 | h7 | h7 | h7
          · have hv7 : ((Utf8.decode s p).1 : Int) = 8 := by rw [h7]; rfl
            rw [h7] at hstep
            have G : Hd (bs ++ [92, 98] = 34 :: (s.data.toList.take (p + (Utf8.decode s p).2)).flatMap U.wrJ) := hd <| by rw [hstep, hr.o]; rfl
            have HNEW : Hd (cellsB [92, 98] = [.int .u8 92, .int .u8 98]) := hd rfl
            clear hstep h7
            go_wp2_with (at_builtin; refine wpList_app_lit 40 5 (.int .u8 0) 1 1 Try.underlying40 info_u8 rfl (by decide) rfl _ _ rfl w.heap.size u4 bs.length (cellsB bs) (wr.iterAt kk s (p + (Utf8.decode s p).2)) #[.int .u8 92, .int .u8 98] 2 rfl rfl how2 rfl ?_ ?_ ?_ hzz ?_)
            any_goals (first | omega | (simp [Value.oneCell']; done))
            intro v' w' ho' hg'
            have hit' := hd (grown_keep hg' HIT.o HNE.o)
            have hbw' := bel_grown HBW.o hg' (fun k hk => (how2.lt k hk).1)
            have HO : Hd (w'.ownsRow w.heap.size 5 1 v' (bs ++ [92, 98]).length (cellsB (bs ++ [92, 98]))) := hd <| by
              rw [cellsB_app, List.length_append, HNEW.o]
              exact ho'
            clear how how2 ho' hg'
            go_wp2
            go_roundw
            case rel => exact ⟨p + (Utf8.decode s p).2, bs ++ [92, 98], hle, hit'.o, HO.o, hbw', G, GV⟩
            case measure => rw [iterPos_of hit'.o, HIP.o]; omega
          · have hv7 : ((Utf8.decode s p).1 : Int) = 9 := by rw [h7]; rfl
            rw [h7] at hstep
            have G : Hd (bs ++ [92, 116] = 34 :: (s.data.toList.take (p + (Utf8.decode s p).2)).flatMap U.wrJ) := hd <| by rw [hstep, hr.o]; rfl
            have HNEW : Hd (cellsB [92, 116] = [.int .u8 92, .int .u8 116]) := hd rfl
            clear hstep h7
            go_wp2_with (at_builtin; refine wpList_app_lit 40 5 (.int .u8 0) 1 1 Try.underlying40 info_u8 rfl (by decide) rfl _ _ rfl w.heap.size u4 bs.length (cellsB bs) (wr.iterAt kk s (p + (Utf8.decode s p).2)) #[.int .u8 92, .int .u8 116] 2 rfl rfl how2 rfl ?_ ?_ ?_ hzz ?_)
            any_goals (first | omega | (simp [Value.oneCell']; done))
            intro v' w' ho' hg'
            have hit' := hd (grown_keep hg' HIT.o HNE.o)
            have hbw' := bel_grown HBW.o hg' (fun k hk => (how2.lt k hk).1)
            have HO : Hd (w'.ownsRow w.heap.size 5 1 v' (bs ++ [92, 116]).length (cellsB (bs ++ [92, 116]))) := hd <| by
              rw [cellsB_app, List.length_append, HNEW.o]
              exact ho'
            clear how how2 ho' hg'
            go_wp2
            go_roundw
            case rel => exact ⟨p + (Utf8.decode s p).2, bs ++ [92, 116], hle, hit'.o, HO.o, hbw', G, GV⟩
            case measure => rw [iterPos_of hit'.o, HIP.o]; omega
          · have hv7 : ((Utf8.decode s p).1 : Int) = 10 := by rw [h7]; rfl
            rw [h7] at hstep
            have G : Hd (bs ++ [92, 110] = 34 :: (s.data.toList.take (p + (Utf8.decode s p).2)).flatMap U.wrJ) := hd <| by rw [hstep, hr.o]; rfl
            have HNEW : Hd (cellsB [92, 110] = [.int .u8 92, .int .u8 110]) := hd rfl
            clear hstep h7
            go_wp2_with (at_builtin; refine wpList_app_lit 40 5 (.int .u8 0) 1 1 Try.underlying40 info_u8 rfl (by decide) rfl _ _ rfl w.heap.size u4 bs.length (cellsB bs) (wr.iterAt kk s (p + (Utf8.decode s p).2)) #[.int .u8 92, .int .u8 110] 2 rfl rfl how2 rfl ?_ ?_ ?_ hzz ?_)
            any_goals (first | omega | (simp [Value.oneCell']; done))
            intro v' w' ho' hg'
            have hit' := hd (grown_keep hg' HIT.o HNE.o)
            have hbw' := bel_grown HBW.o hg' (fun k hk => (how2.lt k hk).1)
            have HO : Hd (w'.ownsRow w.heap.size 5 1 v' (bs ++ [92, 110]).length (cellsB (bs ++ [92, 110]))) := hd <| by
              rw [cellsB_app, List.length_append, HNEW.o]
              exact ho'
            clear how how2 ho' hg'
            go_wp2
            go_roundw
            case rel => exact ⟨p + (Utf8.decode s p).2, bs ++ [92, 110], hle, hit'.o, HO.o, hbw', G, GV⟩
            case measure => rw [iterPos_of hit'.o, HIP.o]; omega
          · have hv7 : ((Utf8.decode s p).1 : Int) = 12 := by rw [h7]; rfl
            rw [h7] at hstep
            have G : Hd (bs ++ [92, 102] = 34 :: (s.data.toList.take (p + (Utf8.decode s p).2)).flatMap U.wrJ) := hd <| by rw [hstep, hr.o]; rfl
            have HNEW : Hd (cellsB [92, 102] = [.int .u8 92, .int .u8 102]) := hd rfl
            clear hstep h7
            go_wp2_with (at_builtin; refine wpList_app_lit 40 5 (.int .u8 0) 1 1 Try.underlying40 info_u8 rfl (by decide) rfl _ _ rfl w.heap.size u4 bs.length (cellsB bs) (wr.iterAt kk s (p + (Utf8.decode s p).2)) #[.int .u8 92, .int .u8 102] 2 rfl rfl how2 rfl ?_ ?_ ?_ hzz ?_)
            any_goals (first | omega | (simp [Value.oneCell']; done))
            intro v' w' ho' hg'
            have hit' := hd (grown_keep hg' HIT.o HNE.o)
            have hbw' := bel_grown HBW.o hg' (fun k hk => (how2.lt k hk).1)
            have HO : Hd (w'.ownsRow w.heap.size 5 1 v' (bs ++ [92, 102]).length (cellsB (bs ++ [92, 102]))) := hd <| by
              rw [cellsB_app, List.length_append, HNEW.o]
              exact ho'
            clear how how2 ho' hg'
            go_wp2
            go_roundw
            case rel => exact ⟨p + (Utf8.decode s p).2, bs ++ [92, 102], hle, hit'.o, HO.o, hbw', G, GV⟩
            case measure => rw [iterPos_of hit'.o, HIP.o]; omega
          · have hv7 : ((Utf8.decode s p).1 : Int) = 13 := by rw [h7]; rfl
            rw [h7] at hstep
            have G : Hd (bs ++ [92, 114] = 34 :: (s.data.toList.take (p + (Utf8.decode s p).2)).flatMap U.wrJ) := hd <| by rw [hstep, hr.o]; rfl
            have HNEW : Hd (cellsB [92, 114] = [.int .u8 92, .int .u8 114]) := hd rfl
            clear hstep h7
            go_wp2_with (at_builtin; refine wpList_app_lit 40 5 (.int .u8 0) 1 1 Try.underlying40 info_u8 rfl (by decide) rfl _ _ rfl w.heap.size u4 bs.length (cellsB bs) (wr.iterAt kk s (p + (Utf8.decode s p).2)) #[.int .u8 92, .int .u8 114] 2 rfl rfl how2 rfl ?_ ?_ ?_ hzz ?_)
            any_goals (first | omega | (simp [Value.oneCell']; done))
            intro v' w' ho' hg'
            have hit' := hd (grown_keep hg' HIT.o HNE.o)
            have hbw' := bel_grown HBW.o hg' (fun k hk => (how2.lt k hk).1)
            have HO : Hd (w'.ownsRow w.heap.size 5 1 v' (bs ++ [92, 114]).length (cellsB (bs ++ [92, 114]))) := hd <| by
              rw [cellsB_app, List.length_append, HNEW.o]
              exact ho'
            clear how how2 ho' hg'
            go_wp2
            go_roundw
            case rel => exact ⟨p + (Utf8.decode s p).2, bs ++ [92, 114], hle, hit'.o, HO.o, hbw', G, GV⟩
            case measure => rw [iterPos_of hit'.o, HIP.o]; omega
        by_cases hC : (Utf8.decode s p).1 < 32
        · rw [U.wrJ_hex _ (by omega) ⟨hC, hB⟩] at hstep
          have G : Hd (bs ++ [92, 117, 48, 48, UInt8.ofNat (U.hxN ((Utf8.decode s p).1 / 16)), UInt8.ofNat (U.hxN ((Utf8.decode s p).1 % 16))] = 34 :: (s.data.toList.take (p + (Utf8.decode s p).2)).flatMap U.wrJ) := hd <| by rw [hstep, hr.o]; rfl
          have b1 : (((Utf8.decode s p).1 : Int) == 34) = false := by rw [beq_eq_false_iff_ne]; omega
          have b2 : (((Utf8.decode s p).1 : Int) == 92) = false := by rw [beq_eq_false_iff_ne]; omega
          clear hstep
          have hC' : (Utf8.decode s p).1 < 8 ∨ (14 ≤ (Utf8.decode s p).1 ∧ (Utf8.decode s p).1 < 32) ∨ (Utf8.decode s p).1 = 11 := by omega
          have ha15 := and15 ((Utf8.decode s p).1 : Int) (by omega) (by omega)
          have x1 := fun w => run_hex .i32 ((Utf8.decode s p).1 / 16) (by omega) (by omega) w
          have x2 := fun w => run_hex .i32 ((Utf8.decode s p).1 % 16) (by omega) (by omega) w
          have HNEW : Hd (cellsB [92, 117, 48, 48, UInt8.ofNat (U.hxN ((Utf8.decode s p).1 / 16)), UInt8.ofNat (U.hxN ((Utf8.decode s p).1 % 16))] = [.int .u8 92, .int .u8 117, .int .u8 48, .int .u8 48, .int .u8 (U.hxN (((Utf8.decode s p).1 : Int) / 16).toNat : Int), .int .u8 (U.hxN (((Utf8.decode s p).1 : Int) % 16).toNat : Int)]) := hd <| by
            have e1 : (((Utf8.decode s p).1 : Int) / 16).toNat = (Utf8.decode s p).1 / 16 := by omega
            have e2 : (((Utf8.decode s p).1 : Int) % 16).toNat = (Utf8.decode s p).1 % 16 := by omega
            rw [e1, e2]
            simp only [cellsB, List.map_cons, List.map_nil]
            rw [U.ofNat_toNat _ (U.hxN_lt _ (by omega)), U.ofNat_toNat _ (U.hxN_lt _ (by omega))]; rfl
          clear hA hB hC
          rcases hC' with hC | hC | hC
          · go_wp2_with fail
            go_region_law (refine step_app_lit 40 5 (.int .u8 0) 1 1 Try.underlying40 info_u8 rfl (by decide) rfl (.tmp 51) (.tmp 58) rfl w.heap.size u4 bs.length (cellsB bs) (wr.iterAt kk s (p + (Utf8.decode s p).2)) _ 6 rfl rfl how2 rfl (by simp [Value.oneCell']) (by omega) (by omega) hzz ?_; intro v' w' ho' hg')
            all_goals
              have hit' := hd (grown_keep hg' HIT.o HNE.o)
              have hbw' := bel_grown HBW.o hg' (fun k hk => (how2.lt k hk).1)
              have HO : Hd (w'.ownsRow w.heap.size 5 1 v' (bs ++ [92, 117, 48, 48, UInt8.ofNat (U.hxN ((Utf8.decode s p).1 / 16)), UInt8.ofNat (U.hxN ((Utf8.decode s p).1 % 16))]).length (cellsB (bs ++ [92, 117, 48, 48, UInt8.ofNat (U.hxN ((Utf8.decode s p).1 / 16)), UInt8.ofNat (U.hxN ((Utf8.decode s p).1 % 16))]))) := hd <| by
                rw [cellsB_app, List.length_append, HNEW.o]
                exact ho'
              clear how how2 ho' hg'
              go_simp
              go_wp2
              go_roundw
              case rel => exact ⟨p + (Utf8.decode s p).2, _, hle, hit'.o, HO.o, hbw', G, GV⟩
              case measure => rw [iterPos_of hit'.o, HIP.o]; omega
          · go_wp2_with fail
            go_region_law (refine step_app_lit 40 5 (.int .u8 0) 1 1 Try.underlying40 info_u8 rfl (by decide) rfl (.tmp 51) (.tmp 58) rfl w.heap.size u4 bs.length (cellsB bs) (wr.iterAt kk s (p + (Utf8.decode s p).2)) _ 6 rfl rfl how2 rfl (by simp [Value.oneCell']) (by omega) (by omega) hzz ?_; intro v' w' ho' hg')
            all_goals
              have hit' := hd (grown_keep hg' HIT.o HNE.o)
              have hbw' := bel_grown HBW.o hg' (fun k hk => (how2.lt k hk).1)
              have HO : Hd (w'.ownsRow w.heap.size 5 1 v' (bs ++ [92, 117, 48, 48, UInt8.ofNat (U.hxN ((Utf8.decode s p).1 / 16)), UInt8.ofNat (U.hxN ((Utf8.decode s p).1 % 16))]).length (cellsB (bs ++ [92, 117, 48, 48, UInt8.ofNat (U.hxN ((Utf8.decode s p).1 / 16)), UInt8.ofNat (U.hxN ((Utf8.decode s p).1 % 16))]))) := hd <| by
                rw [cellsB_app, List.length_append, HNEW.o]
                exact ho'
              clear how how2 ho' hg'
              go_simp
              go_wp2
              go_roundw
              case rel => exact ⟨p + (Utf8.decode s p).2, _, hle, hit'.o, HO.o, hbw', G, GV⟩
              case measure => rw [iterPos_of hit'.o, HIP.o]; omega
          · have b3 : (((Utf8.decode s p).1 : Int) != 11) = false := by rw [hC]; rfl
            have hC1 : 11 ≤ (Utf8.decode s p).1 := by omega
            have hC2 : (Utf8.decode s p).1 ≤ 11 := by omega
            clear hC
            go_wp2_with fail
            go_region_law (refine step_app_lit 40 5 (.int .u8 0) 1 1 Try.underlying40 info_u8 rfl (by decide) rfl (.tmp 51) (.tmp 58) rfl w.heap.size u4 bs.length (cellsB bs) (wr.iterAt kk s (p + (Utf8.decode s p).2)) _ 6 rfl rfl how2 rfl (by simp [Value.oneCell']) (by omega) (by omega) hzz ?_; intro v' w' ho' hg')
            all_goals
              have hit' := hd (grown_keep hg' HIT.o HNE.o)
              have hbw' := bel_grown HBW.o hg' (fun k hk => (how2.lt k hk).1)
              have HO : Hd (w'.ownsRow w.heap.size 5 1 v' (bs ++ [92, 117, 48, 48, UInt8.ofNat (U.hxN ((Utf8.decode s p).1 / 16)), UInt8.ofNat (U.hxN ((Utf8.decode s p).1 % 16))]).length (cellsB (bs ++ [92, 117, 48, 48, UInt8.ofNat (U.hxN ((Utf8.decode s p).1 / 16)), UInt8.ofNat (U.hxN ((Utf8.decode s p).1 % 16))]))) := hd <| by
                rw [cellsB_app, List.length_append, HNEW.o]
                exact ho'
              clear how how2 ho' hg'
              go_simp
              go_wp2
              go_roundw
              case rel => exact ⟨p + (Utf8.decode s p).2, _, hle, hit'.o, HO.o, hbw', G, GV⟩
              case measure => rw [iterPos_of hit'.o, HIP.o]; omega
        · have hc : 32 ≤ (Utf8.decode s p).1 ∧ (Utf8.decode s p).1 ≠ 34 ∧ (Utf8.decode s p).1 ≠ 92 := by omega
          rw [U.wrJ_self _ (by omega) hc, ← U.enc_low _ hlow] at hstep
          have G : Hd (bs ++ (Utf8.encode ((Utf8.decode s p).1 : Int)).toList = 34 :: (s.data.toList.take (p + (Utf8.decode s p).2)).flatMap U.wrJ) := hd <| by rw [hstep, hr.o]; rfl
          clear hstep
          have b1 : (((Utf8.decode s p).1 : Int) == 34) = false := by rw [beq_eq_false_iff_ne]; omega
          have b2 : (((Utf8.decode s p).1 : Int) == 92) = false := by rw [beq_eq_false_iff_ne]; omega
          have hv := hd (U.good_valid s p GB.o)
          have hn : bs.length ≤ 140737488351232 := by omega
          have hr32 : 32 ≤ (Utf8.decode s p).1 := by omega
          have hcast : 32 ≤ (Utf8.decode s p).1 := hr32
          clear hA hB hC hlow hc
          go_wp2_with (go_at_call 78; refine (form_any _ hv.o w.heap.size u4 bs.length (cellsB bs) _ how2 hzz hn).mono ?_; rintro e w' ⟨v', rfl, ho', hg'⟩)
          have hit' := hd (grown_keep hg' HIT.o HNE.o)
          have hbw' := bel_grown HBW.o hg' (fun k hk => (how2.lt k hk).1)
          have HO : Hd (w'.ownsRow w.heap.size 5 1 v' (bs ++ (Utf8.encode ((Utf8.decode s p).1 : Int)).toList).length (cellsB (bs ++ (Utf8.encode ((Utf8.decode s p).1 : Int)).toList))) := hd <| by
            rw [cellsB_app, List.length_append]
            exact ho'
          clear how how2 ho' hg' hv
          go_wp2
          go_roundw
          case rel => exact ⟨p + (Utf8.decode s p).2, _, hle, hit'.o, HO.o, hbw', G, GV⟩
          case measure => rw [iterPos_of hit'.o, HIP.o]; omega
      · have hstep := U.flat_high U.wrJ U.wrJ_high s p hp GB.o (by unfold U.run; omega)
        unfold U.run at hstep
        have G : Hd (bs ++ (Utf8.encode ((Utf8.decode s p).1 : Int)).toList = 34 :: (s.data.toList.take (p + (Utf8.decode s p).2)).flatMap U.wrJ) := hd <| by rw [hstep, hr.o]; rfl
        clear hstep
        have b1 : (((Utf8.decode s p).1 : Int) == 34) = false := by rw [beq_eq_false_iff_ne]; omega
        have b2 : (((Utf8.decode s p).1 : Int) == 92) = false := by rw [beq_eq_false_iff_ne]; omega
        have hv := hd (U.good_valid s p GB.o)
        have hn : bs.length ≤ 140737488351232 := by omega
        have hr32 : 32 ≤ (Utf8.decode s p).1 := by omega
        have hcast : 32 ≤ (Utf8.decode s p).1 := hr32
        clear hlow
        go_wp2_with (go_at_call 78; refine (form_any _ hv.o w.heap.size u4 bs.length (cellsB bs) _ how2 hzz hn).mono ?_; rintro e w' ⟨v', rfl, ho', hg'⟩)
        have hit' := hd (grown_keep hg' HIT.o HNE.o)
        have hbw' := bel_grown HBW.o hg' (fun k hk => (how2.lt k hk).1)
        have HO : Hd (w'.ownsRow w.heap.size 5 1 v' (bs ++ (Utf8.encode ((Utf8.decode s p).1 : Int)).toList).length (cellsB (bs ++ (Utf8.encode ((Utf8.decode s p).1 : Int)).toList))) := hd <| by
          rw [cellsB_app, List.length_append]
          exact ho'
        clear how how2 ho' hg' hv
        go_wp2
        go_roundw
        case rel => exact ⟨p + (Utf8.decode s p).2, _, hle, hit'.o, HO.o, hbw', G, GV⟩
        case measure => rw [iterPos_of hit'.o, HIP.o]; omega
    · have hnx := fun ty => Lib.run_next_end_at (P := Try.prog) wr kk s p ty hit hp
      have G : Hd (bs ++ [34] = (U.wrS U.wrJ s).1) := hd <| by
        rw [HG.o, hr.o, List.take_of_length_le (by rw [← Lib.size_eq]; omega)]
      have hzz : w.heap.size ≤ wr.heap.size := hbw.size
      go_wp2_with (at_builtin; refine wpList_app_lit 40 5 (.int .u8 0) 1 1 Try.underlying40 info_u8 rfl (by decide) rfl _ _ rfl w.heap.size u4 bs.length (cellsB bs) _ #[.int .u8 34] 1 rfl rfl how rfl ?c1 ?c2 ?c3 hzz ?_)
      case c1 => simp [Value.oneCell']
      case c2 => omega
      case c3 => omega
      intro v' w' ho' hg'
      have hbw' := bel_grown hbw hg' (fun k hk => (how.lt k hk).1)
      have HO : w'.ownsRow w.heap.size 5 1 v' (bs ++ [34]).length (cellsB (bs ++ [34])) := by
        rw [cellsB_app, List.length_append]
        exact ho'
      have io := IsL.own HO
      have hcv := run_string_of w' 40 9 5 Try.underlying40 Try.underlying5 Try.underlying9 v' _ _ io
      clear how ho' hg' HO io hr
      go_wp2
      go_ret2
      exact ⟨ret_strR (by rw [← G.o]) (by rw [HG.o]), hbw'⟩
end Go.Proofs.Ytifaepkeoffcfaa
