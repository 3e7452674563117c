/- The walks of weirref01.back, written, Quote, Json. -/
import Derived.Test.YtifaepkeoffcfaaUJson
import Derived.Test.YtifaepkeoffcfaaURefNum
import Derived.Test.YtifaepkeoffcfaaBase5
namespace Go.Proofs.Ytifaepkeoffcfaa
open Go.RowKit
set_option linter.unusedVariables false
set_option linter.unusedSimpArgs false

theorem wrap_u8 (x : Int) (h0 : 0 ≤ x) (h1 : x < 256) : IntKind.u8.wrap x = x := by
  rw [IntKind.wrap_u8]; omega
theorem ret_strV {a b : List UInt8} (h : a = b) : Ending.returned (.string ⟨a.toArray⟩) = Ending.returned (.string ⟨b.toArray⟩) := by rw [h]
theorem ret_u8 {a b : Int} (h : a = b) : Ending.returned (.int .u8 a) = Ending.returned (.int .u8 b) := by rw [h]
theorem back_any (c : Nat) (z : Int) (hz : z = c) (s : ByteArray) (w : World) (hs : s.size ≤ 1125899906842624) (hc : c < 256) :
    Calls Try.prog 96 #[.int .u8 z, .string s] w fun e w' => e = .returned (.int .u8 (U.backL s.data.toList c)) ∧ w = w' := by
  subst hz
  go_enter Try.func96, Try.ntmps96
  go_wp2
  go_loop [5] (fun x => ∃ p : Nat, p ≤ s.size + 1 ∧ x = .int .i64 p ∧ Hd (U.backL (s.data.toList.drop p) c = U.backL s.data.toList c)) (fun x => s.size + 1 - (intOf x).toNat)
  case atStart => exact ⟨0, by omega, rfl, hd rfl⟩
  case round =>
    obtain ⟨p, hp, rfl, hr⟩ := hrel
    by_cases hlt : p + 1 < s.size
    · obtain ⟨x, hx, hdx⟩ := drop_cons' s p (by omega)
      obtain ⟨y, hy, hdy⟩ := drop_cons' s (p + 1) hlt
      have e0 := U.at_eq s p (by omega)
      have e1 := U.at_eq s (p + 1) hlt
      have h1 : ((s[p]'(by omega)).toNat : Int) = (U.at' s p : Int) := by rw [e0]
      have h2 : ((s[p + 1]'hlt).toNat : Int) = (U.at' s (p + 1) : Int) := by rw [e1]
      have hr' := hr.o
      rw [hdx, hdy, U.backL, hx, hy] at hr'
      have HR := hd hr'
      clear hdx hdy hr' hr hx hy e0 e1
      by_cases hq : U.at' s (p + 1) = c
      · have hb : ((U.at' s (p + 1) : Int) == (c : Int)) = true := by rw [hq]; simp
        have G : Hd (U.backL s.data.toList c = U.at' s p) := hd <| by rw [← HR.o, if_pos hq]
        clear hq HR
        go_wp2
        go_ret
        exact ⟨ret_u8 (by rw [G.o]), rfl⟩
      · have hb : ((U.at' s (p + 1) : Int) == (c : Int)) = false := by rw [beq_eq_false_iff_ne]; omega
        have G : Hd (U.backL (s.data.toList.drop (p + 2)) c = U.backL s.data.toList c) := hd <| by rw [← HR.o, if_neg hq]
        clear hq HR
        go_wp2
        go_round
        case rel => exact ⟨p + 2, by omega, by go_num, G⟩
        case measure => simp [intOf]; omega
    · have G : Hd (U.backL s.data.toList c = 0) := hd <| by
        rw [← hr.o]
        have hl : (s.data.toList.drop p).length ≤ 1 := by rw [List.length_drop, ← Lib.size_eq]; omega
        match hm : s.data.toList.drop p, hl with
        | [], _ => rfl
        | [a], _ => rfl
      go_wp2
      go_ret
      exact ⟨ret_u8 (by rw [G.o]; rfl), rfl⟩

theorem U.backL_lt : ∀ (l : List UInt8) (c : Nat), U.backL l c < 256
  | a :: b :: r, c => by
    rw [U.backL]
    split
    · exact a.toNat_lt
    · exact U.backL_lt r c
  | [a], c => by simp [U.backL]
  | [], c => by simp [U.backL]
theorem U.take_byte (f : UInt8 → List UInt8) (s : ByteArray) (p : Nat) (h : p < s.size) : (s.data.toList.take (p + 1)).flatMap f = (s.data.toList.take p).flatMap f ++ f (UInt8.ofNat (U.at' s p)) := by
  obtain ⟨h', e⟩ := list_at s p h
  rw [List.take_succ_eq_append_getElem h', List.flatMap_append]
  simp only [List.flatMap_cons, List.flatMap_nil, List.append_nil]
  rw [← e, U.u8_of]
theorem U.wrB_back (l h : List UInt8) (d : Bool) (c : Nat) (hc : c < 256) (hb : U.backL l c ≠ 0) : U.wrB l h d (UInt8.ofNat c) = [92, UInt8.ofNat (U.backL l c)] := by
  unfold U.wrB; rw [U.ofNat_toNat _ hc, if_pos hb]
theorem U.wrB_hex (l h : List UInt8) (d : Bool) (c : Nat) (hc : c < 256) (hb : U.backL l c = 0) (hx : c < 32 ∨ (d = true ∧ c = 127)) : U.wrB l h d (UInt8.ofNat c) = h ++ [UInt8.ofNat (U.hxN (c / 16)), UInt8.ofNat (U.hxN (c % 16))] := by
  unfold U.wrB; rw [U.ofNat_toNat _ hc, if_neg (by simp [hb]), if_pos hx]
theorem U.wrB_self (l h : List UInt8) (d : Bool) (c : Nat) (hc : c < 256) (hb : U.backL l c = 0) (hx : ¬ (c < 32 ∨ (d = true ∧ c = 127))) : U.wrB l h d (UInt8.ofNat c) = [UInt8.ofNat c] := by
  unfold U.wrB; rw [U.ofNat_toNat _ hc, if_neg (by simp [hb]), if_neg hx]
theorem U.wrB_len (l h : List UInt8) (d : Bool) (hh : h.length ≤ 4) : ∀ c : Nat, c < 256 → (U.wrB l h d (UInt8.ofNat c)).length ≤ 6 := by
  intro c hc
  unfold U.wrB
  split
  · simp
  · split
    · simp; omega
    · simp

set_option maxHeartbeats 3200000 in
theorem written_true (s l h : ByteArray) (w : World) (hs : s.size ≤ 1048576) (hl : l.size ≤ 1048576) (hh : h.size ≤ 4) :
    Calls Try.prog 79 #[.string s, .string l, .string h, .bool true] w fun e w' => e = .returned (.string ⟨(34 :: s.data.toList.flatMap (U.wrB l.data.toList h.data.toList true) ++ [34]).toArray⟩) ∧ Below w.heap.size w w' := by
  obtain ⟨f, hf⟩ : ∃ f, f = U.wrB l.data.toList h.data.toList true := ⟨_, rfl⟩
  have HF := hd hf
  rw [← hf]
  have HLEN : Hd (∀ c : Nat, c < 256 → (f (UInt8.ofNat c)).length ≤ 6) := hd <| by rw [hf]; exact U.wrB_len _ _ _ (by rw [← Lib.size_eq]; exact hh)
  clear hf
  go_enter Try.func79, Try.ntmps79
  go_wp2
  have ho0 : (w.alloc (.cells #[.int .u8 34] 5)).ownsRow w.heap.size 5 1 (.slice (some ⟨w.heap.size, 0, none⟩) 1 1) 1 (cellsB [34]) := World.ownsRow_lit w #[.int .u8 34] 1 (Nat.le_refl _) (by decide) rfl
  have HO0 := hd ho0
  have HB0 : Hd (Below w.heap.size w (w.alloc (.cells #[.int .u8 34] 5))) := hd ((Below.refl _ _).alloc (Nat.le_refl _) _)
  clear ho0
  go_loopw [9, 10] (fun v x wr => ∃ (p : Nat) (bs : List UInt8), p ≤ s.size ∧ x = .int .i64 p ∧ wr.ownsRow w.heap.size 5 1 v bs.length (cellsB bs) ∧ Below w.heap.size w wr ∧ Hd (bs = 34 :: (s.data.toList.take p).flatMap f)) (fun _ x _ => s.size - (intOf x).toNat)
  case atStart => exact ⟨0, [34], Nat.zero_le _, rfl, HO0.o, HB0.o, hd rfl⟩
  case round =>
    obtain ⟨p, bs, hpos, rfl, how, hbw, hr⟩ := hrel
    have hzz : w.heap.size ≤ wr.heap.size := hbw.size
    have hbl : bs.length ≤ 6 * s.size + 1 := by
      have := U.flat_len f HLEN.o (s.data.toList.take p)
      rw [hr.o, List.length_cons]
      rw [List.length_take, ← Lib.size_eq] at this
      omega
    have hbl2 : bs.length ≤ 6291457 := by omega
    clear hbl
    by_cases hp : p < s.size
    · have e0 := U.at_eq s p hp
      have h1 : ((s[p]'hp).toNat : Int) = (U.at' s p : Int) := by rw [e0]
      have hlt := U.at_lt s p
      have hstep := U.take_byte f s p hp
      have hbk := U.backL_lt l.data.toList (U.at' s p)
      clear e0
      have hl2 : l.size ≤ 1125899906842624 := by omega
      by_cases hb0 : U.backL l.data.toList (U.at' s p) = 0
      · have b0 : ((U.backL l.data.toList (U.at' s p) : Int) != 0) = false := by rw [hb0]; rfl
        by_cases hx : U.at' s p < 32 ∨ (true = true ∧ U.at' s p = 127)
        · rw [show f (UInt8.ofNat (U.at' s p)) = h.data.toList ++ [UInt8.ofNat (U.hxN (U.at' s p / 16)), UInt8.ofNat (U.hxN (U.at' s p % 16))] by rw [HF.o]; exact U.wrB_hex _ _ _ _ hlt hb0 hx] at hstep
          have G : Hd (bs ++ h.data.toList ++ [UInt8.ofNat (U.hxN (U.at' s p / 16)), UInt8.ofNat (U.hxN (U.at' s p % 16))] = 34 :: (s.data.toList.take (p + 1)).flatMap f) := hd <| by rw [hstep, hr.o, List.append_assoc]; rfl
          have HNEW : Hd (cellsB [UInt8.ofNat (U.hxN (U.at' s p / 16)), UInt8.ofNat (U.hxN (U.at' s p % 16))] = [.int .u8 (U.hxN ((U.at' s p : Int) / 16).toNat : Int), .int .u8 (U.hxN ((U.at' s p : Int) % 16).toNat : Int)]) := hd <| by
            have e1 : ((U.at' s p : Int) / 16).toNat = U.at' s p / 16 := by omega
            have e2 : ((U.at' s p : Int) % 16).toNat = U.at' s p % 16 := by omega
            rw [e1, e2]
            simp only [cellsB, List.map_cons, List.map_nil]
            rw [U.ofNat_toNat _ (U.hxN_lt _ (by omega)), U.ofNat_toNat _ (U.hxN_lt _ (by omega))]
          have hw1 : IntKind.u8.wrap ((U.at' s p : Int) / 16) = (U.at' s p : Int) / 16 := wrap_u8 _ (by omega) (by omega)
          have hw2 : (U.at' s p : Int).tmod 16 = (U.at' s p : Int) % 16 := Int.tmod_eq_emod_of_nonneg (by omega)
          have x1 := fun w => run_hex .u8 ((U.at' s p : Int) / 16) (by omega) (by omega) w
          have x2 := fun w => run_hex .u8 ((U.at' s p : Int) % 16) (by omega) (by omega) w
          clear hstep hb0
          have hx3 : U.at' s p < 32 ∨ U.at' s p = 127 := by rcases hx with h | h; exact .inl h; exact .inr h.2
          clear hx
          rcases hx3 with hx3 | hx3
          · have hx2 : bs.length + h.size ≤ 140737488355328 := by omega
            go_wp2_with (first
              | (go_at_call 96; refine (back_any (U.at' s p) _ rfl _ _ hl2 hlt).mono ?_; rintro e w3 ⟨rfl, rfl⟩)
              | (at_builtin; refine wpList_app_str _ 40 9 5 Try.underlying40 Try.underlying9 info_u8 rfl _ _ rfl w.heap.size u9 _ _ rfl how h rfl hx2 hzz ?_))
            intro v1 w1 ho1 hg1
            have hb1 := bel_grown hbw hg1 (fun k hk => (how.lt k hk).1)
            have hz1 : w.heap.size ≤ w1.heap.size := hb1.size
            clear how hg1
            go_wp2
            go_region_law (refine step_app_lit 40 5 (.int .u8 0) 1 1 Try.underlying40 info_u8 rfl (by decide) rfl (.tmp 50) (.tmp 57) rfl w.heap.size v1 _ _ w1 _ 2 rfl rfl ho1 rfl (by simp [Value.oneCell']) (by omega) (by omega) hz1 ?_; intro v' w' ho' hg')
            all_goals
              have hbw' := bel_grown hb1 hg' (fun k hk => (ho1.lt k hk).1)
              have HO : Hd (w'.ownsRow w.heap.size 5 1 v' (bs ++ h.data.toList ++ [UInt8.ofNat (U.hxN (U.at' s p / 16)), UInt8.ofNat (U.hxN (U.at' s p % 16))]).length (cellsB (bs ++ h.data.toList ++ [UInt8.ofNat (U.hxN (U.at' s p / 16)), UInt8.ofNat (U.hxN (U.at' s p % 16))]))) := hd <| by
                rw [cellsB_app, cellsB_app, List.length_append, List.length_append, HNEW.o, ← Lib.size_eq]
                exact ho'
              clear ho1 ho' hg'
              go_simp
              go_wp2
              go_roundw
              case rel => exact ⟨p + 1, _, by omega, by go_num, HO.o, hbw', G⟩
              case measure => simp [intOf]; omega
          · have b3 : ((U.at' s p : Int) == 127) = true := by rw [hx3]; rfl
            have g1 : 127 ≤ U.at' s p := by omega
            have g2 : U.at' s p ≤ 127 := by omega
            clear hx3
            have hx2 : bs.length + h.size ≤ 140737488355328 := by omega
            go_wp2_with (first
              | (go_at_call 96; refine (back_any (U.at' s p) _ rfl _ _ hl2 hlt).mono ?_; rintro e w3 ⟨rfl, rfl⟩)
              | (at_builtin; refine wpList_app_str _ 40 9 5 Try.underlying40 Try.underlying9 info_u8 rfl _ _ rfl w.heap.size u9 _ _ rfl how h rfl hx2 hzz ?_))
            intro v1 w1 ho1 hg1
            have hb1 := bel_grown hbw hg1 (fun k hk => (how.lt k hk).1)
            have hz1 : w.heap.size ≤ w1.heap.size := hb1.size
            clear how hg1
            go_wp2
            go_region_law (refine step_app_lit 40 5 (.int .u8 0) 1 1 Try.underlying40 info_u8 rfl (by decide) rfl (.tmp 50) (.tmp 57) rfl w.heap.size v1 _ _ w1 _ 2 rfl rfl ho1 rfl (by simp [Value.oneCell']) (by omega) (by omega) hz1 ?_; intro v' w' ho' hg')
            all_goals
              have hbw' := bel_grown hb1 hg' (fun k hk => (ho1.lt k hk).1)
              have HO : Hd (w'.ownsRow w.heap.size 5 1 v' (bs ++ h.data.toList ++ [UInt8.ofNat (U.hxN (U.at' s p / 16)), UInt8.ofNat (U.hxN (U.at' s p % 16))]).length (cellsB (bs ++ h.data.toList ++ [UInt8.ofNat (U.hxN (U.at' s p / 16)), UInt8.ofNat (U.hxN (U.at' s p % 16))]))) := hd <| by
                rw [cellsB_app, cellsB_app, List.length_append, List.length_append, HNEW.o, ← Lib.size_eq]
                exact ho'
              clear ho1 ho' hg'
              go_simp
              go_wp2
              go_roundw
              case rel => exact ⟨p + 1, _, by omega, by go_num, HO.o, hbw', G⟩
              case measure => simp [intOf]; omega
        · rw [show f (UInt8.ofNat (U.at' s p)) = [UInt8.ofNat (U.at' s p)] by rw [HF.o]; exact U.wrB_self _ _ _ _ hlt hb0 hx] at hstep
          have G : Hd (bs ++ [UInt8.ofNat (U.at' s p)] = 34 :: (s.data.toList.take (p + 1)).flatMap f) := hd <| by rw [hstep, hr.o]; rfl
          have HNEW : Hd (cellsB [UInt8.ofNat (U.at' s p)] = [.int .u8 (U.at' s p : Int)]) := hd <| by
            simp only [cellsB, List.map_cons, List.map_nil]
            rw [U.ofNat_toNat _ hlt]
          have g32 : 32 ≤ U.at' s p := by omega
          have b3 : ((U.at' s p : Int) == 127) = decide (U.at' s p = 127) := by rw [Bool.eq_iff_iff]; simp; omega
          have hx2 : true = true → decide (U.at' s p = 127) = false := by intro h; simp; intro h2; exact hx (.inr ⟨h, h2⟩)
          have b4 : true = true → ((U.at' s p : Int) == 127) = false := fun h => by rw [b3]; exact hx2 h
          have b5 := b4 rfl
          clear hstep hb0 hx b3 hx2 b4
          go_wp2_with (first
            | (go_at_call 96; refine (back_any (U.at' s p) _ rfl _ _ hl2 hlt).mono ?_; rintro e w3 ⟨rfl, rfl⟩)
            | (at_builtin; refine wpList_app_lit 40 5 (.int .u8 0) 1 1 Try.underlying40 info_u8 rfl (by decide) rfl _ _ rfl w.heap.size u9 bs.length (cellsB bs) wr #[.int .u8 (U.at' s p : Int)] 1 rfl rfl how rfl ?_ ?_ ?_ hzz ?_))
          any_goals (first | omega | (simp [Value.oneCell']; done))
          intro v' w' ho' hg'
          have hbw' := bel_grown hbw hg' (fun k hk => (how.lt k hk).1)
          have HO : Hd (w'.ownsRow w.heap.size 5 1 v' (bs ++ [UInt8.ofNat (U.at' s p)]).length (cellsB (bs ++ [UInt8.ofNat (U.at' s p)]))) := hd <| by
            rw [cellsB_app, List.length_append, HNEW.o]
            exact ho'
          clear how ho' hg'
          go_wp2
          go_roundw
          case rel => exact ⟨p + 1, _, by omega, by go_num, HO.o, hbw', G⟩
          case measure => simp [intOf]; omega
      · have b0 : ((U.backL l.data.toList (U.at' s p) : Int) != 0) = true := by rw [bne_iff_ne]; omega
        rw [show f (UInt8.ofNat (U.at' s p)) = [92, UInt8.ofNat (U.backL l.data.toList (U.at' s p))] by rw [HF.o]; exact U.wrB_back _ _ _ _ hlt hb0] at hstep
        have G : Hd (bs ++ [92, UInt8.ofNat (U.backL l.data.toList (U.at' s p))] = 34 :: (s.data.toList.take (p + 1)).flatMap f) := hd <| by rw [hstep, hr.o]; rfl
        have HNEW : Hd (cellsB [92, UInt8.ofNat (U.backL l.data.toList (U.at' s p))] = [.int .u8 92, .int .u8 (U.backL l.data.toList (U.at' s p) : Int)]) := hd <| by
          simp only [cellsB, List.map_cons, List.map_nil]
          rw [U.ofNat_toNat _ hbk]; rfl
        clear hstep hb0
        go_wp2_with (first
          | (go_at_call 96; refine (back_any (U.at' s p) _ rfl _ _ hl2 hlt).mono ?_; rintro e w3 ⟨rfl, rfl⟩)
          | (at_builtin; refine wpList_app_lit 40 5 (.int .u8 0) 1 1 Try.underlying40 info_u8 rfl (by decide) rfl _ _ rfl w.heap.size u9 bs.length (cellsB bs) wr #[.int .u8 92, .int .u8 (U.backL l.data.toList (U.at' s p) : Int)] 2 rfl rfl how rfl ?_ ?_ ?_ hzz ?_))
        any_goals (first | omega | (simp [Value.oneCell']; done))
        intro v' w' ho' hg'
        have hbw' := bel_grown hbw hg' (fun k hk => (how.lt k hk).1)
        have HO : Hd (w'.ownsRow w.heap.size 5 1 v' (bs ++ [92, UInt8.ofNat (U.backL l.data.toList (U.at' s p))]).length (cellsB (bs ++ [92, UInt8.ofNat (U.backL l.data.toList (U.at' s p))]))) := hd <| by
          rw [cellsB_app, List.length_append, HNEW.o]
          exact ho'
        clear how ho' hg'
        go_wp2
        go_roundw
        case rel => exact ⟨p + 1, _, by omega, by go_num, HO.o, hbw', G⟩
        case measure => simp [intOf]; omega
    · have G : Hd (bs ++ [34] = 34 :: s.data.toList.flatMap f ++ [34]) := hd <| by
        rw [hr.o, List.take_of_length_le (by rw [← Lib.size_eq]; omega)]
      go_wp2_with (at_builtin; refine wpList_app_lit 40 5 (.int .u8 0) 1 1 Try.underlying40 info_u8 rfl (by decide) rfl _ _ rfl w.heap.size u9 bs.length (cellsB bs) _ #[.int .u8 34] 1 rfl rfl how rfl ?c1 ?c2 ?c3 hzz ?_)
      case c1 => simp [Value.oneCell']
      case c2 => omega
      case c3 => omega
      intro v' w' ho' hg'
      have hbw' := bel_grown hbw hg' (fun k hk => (how.lt k hk).1)
      have HO : w'.ownsRow w.heap.size 5 1 v' (bs ++ [34]).length (cellsB (bs ++ [34])) := by
        rw [cellsB_app, List.length_append]
        exact ho'
      have io := IsL.own HO
      have hcv := run_string_of w' 40 9 5 Try.underlying40 Try.underlying5 Try.underlying9 v' _ _ io
      clear how ho' hg' HO io hr
      go_wp2
      go_ret
      exact ⟨ret_strV (by rw [G.o]; rfl), hbw'⟩

set_option maxHeartbeats 3200000 in
theorem written_false (s l h : ByteArray) (w : World) (hs : s.size ≤ 1048576) (hl : l.size ≤ 1048576) (hh : h.size ≤ 4) :
    Calls Try.prog 79 #[.string s, .string l, .string h, .bool false] w fun e w' => e = .returned (.string ⟨(34 :: s.data.toList.flatMap (U.wrB l.data.toList h.data.toList false) ++ [34]).toArray⟩) ∧ Below w.heap.size w w' := by
  obtain ⟨f, hf⟩ : ∃ f, f = U.wrB l.data.toList h.data.toList false := ⟨_, rfl⟩
  have HF := hd hf
  rw [← hf]
  have HLEN : Hd (∀ c : Nat, c < 256 → (f (UInt8.ofNat c)).length ≤ 6) := hd <| by rw [hf]; exact U.wrB_len _ _ _ (by rw [← Lib.size_eq]; exact hh)
  clear hf
  go_enter Try.func79, Try.ntmps79
  go_wp2
  have ho0 : (w.alloc (.cells #[.int .u8 34] 5)).ownsRow w.heap.size 5 1 (.slice (some ⟨w.heap.size, 0, none⟩) 1 1) 1 (cellsB [34]) := World.ownsRow_lit w #[.int .u8 34] 1 (Nat.le_refl _) (by decide) rfl
  have HO0 := hd ho0
  have HB0 : Hd (Below w.heap.size w (w.alloc (.cells #[.int .u8 34] 5))) := hd ((Below.refl _ _).alloc (Nat.le_refl _) _)
  clear ho0
  go_loopw [9, 10] (fun v x wr => ∃ (p : Nat) (bs : List UInt8), p ≤ s.size ∧ x = .int .i64 p ∧ wr.ownsRow w.heap.size 5 1 v bs.length (cellsB bs) ∧ Below w.heap.size w wr ∧ Hd (bs = 34 :: (s.data.toList.take p).flatMap f)) (fun _ x _ => s.size - (intOf x).toNat)
  case atStart => exact ⟨0, [34], Nat.zero_le _, rfl, HO0.o, HB0.o, hd rfl⟩
  case round =>
    obtain ⟨p, bs, hpos, rfl, how, hbw, hr⟩ := hrel
    have hzz : w.heap.size ≤ wr.heap.size := hbw.size
    have hbl : bs.length ≤ 6 * s.size + 1 := by
      have := U.flat_len f HLEN.o (s.data.toList.take p)
      rw [hr.o, List.length_cons]
      rw [List.length_take, ← Lib.size_eq] at this
      omega
    have hbl2 : bs.length ≤ 6291457 := by omega
    clear hbl
    by_cases hp : p < s.size
    · have e0 := U.at_eq s p hp
      have h1 : ((s[p]'hp).toNat : Int) = (U.at' s p : Int) := by rw [e0]
      have hlt := U.at_lt s p
      have hstep := U.take_byte f s p hp
      have hbk := U.backL_lt l.data.toList (U.at' s p)
      clear e0
      have hl2 : l.size ≤ 1125899906842624 := by omega
      by_cases hb0 : U.backL l.data.toList (U.at' s p) = 0
      · have b0 : ((U.backL l.data.toList (U.at' s p) : Int) != 0) = false := by rw [hb0]; rfl
        by_cases hx : U.at' s p < 32 ∨ (false = true ∧ U.at' s p = 127)
        · rw [show f (UInt8.ofNat (U.at' s p)) = h.data.toList ++ [UInt8.ofNat (U.hxN (U.at' s p / 16)), UInt8.ofNat (U.hxN (U.at' s p % 16))] by rw [HF.o]; exact U.wrB_hex _ _ _ _ hlt hb0 hx] at hstep
          have G : Hd (bs ++ h.data.toList ++ [UInt8.ofNat (U.hxN (U.at' s p / 16)), UInt8.ofNat (U.hxN (U.at' s p % 16))] = 34 :: (s.data.toList.take (p + 1)).flatMap f) := hd <| by rw [hstep, hr.o, List.append_assoc]; rfl
          have HNEW : Hd (cellsB [UInt8.ofNat (U.hxN (U.at' s p / 16)), UInt8.ofNat (U.hxN (U.at' s p % 16))] = [.int .u8 (U.hxN ((U.at' s p : Int) / 16).toNat : Int), .int .u8 (U.hxN ((U.at' s p : Int) % 16).toNat : Int)]) := hd <| by
            have e1 : ((U.at' s p : Int) / 16).toNat = U.at' s p / 16 := by omega
            have e2 : ((U.at' s p : Int) % 16).toNat = U.at' s p % 16 := by omega
            rw [e1, e2]
            simp only [cellsB, List.map_cons, List.map_nil]
            rw [U.ofNat_toNat _ (U.hxN_lt _ (by omega)), U.ofNat_toNat _ (U.hxN_lt _ (by omega))]
          have hw1 : IntKind.u8.wrap ((U.at' s p : Int) / 16) = (U.at' s p : Int) / 16 := wrap_u8 _ (by omega) (by omega)
          have hw2 : (U.at' s p : Int).tmod 16 = (U.at' s p : Int) % 16 := Int.tmod_eq_emod_of_nonneg (by omega)
          have x1 := fun w => run_hex .u8 ((U.at' s p : Int) / 16) (by omega) (by omega) w
          have x2 := fun w => run_hex .u8 ((U.at' s p : Int) % 16) (by omega) (by omega) w
          clear hstep hb0
          have hx3 : U.at' s p < 32 := by rcases hx with h | h; exact h; exact absurd h.1 (by decide)
          clear hx
          · have hx2 : bs.length + h.size ≤ 140737488355328 := by omega
            go_wp2_with (first
              | (go_at_call 96; refine (back_any (U.at' s p) _ rfl _ _ hl2 hlt).mono ?_; rintro e w3 ⟨rfl, rfl⟩)
              | (at_builtin; refine wpList_app_str _ 40 9 5 Try.underlying40 Try.underlying9 info_u8 rfl _ _ rfl w.heap.size u9 _ _ rfl how h rfl hx2 hzz ?_))
            intro v1 w1 ho1 hg1
            have hb1 := bel_grown hbw hg1 (fun k hk => (how.lt k hk).1)
            have hz1 : w.heap.size ≤ w1.heap.size := hb1.size
            clear how hg1
            go_wp2
            go_region_law (refine step_app_lit 40 5 (.int .u8 0) 1 1 Try.underlying40 info_u8 rfl (by decide) rfl (.tmp 50) (.tmp 57) rfl w.heap.size v1 _ _ w1 _ 2 rfl rfl ho1 rfl (by simp [Value.oneCell']) (by omega) (by omega) hz1 ?_; intro v' w' ho' hg')
            all_goals
              have hbw' := bel_grown hb1 hg' (fun k hk => (ho1.lt k hk).1)
              have HO : Hd (w'.ownsRow w.heap.size 5 1 v' (bs ++ h.data.toList ++ [UInt8.ofNat (U.hxN (U.at' s p / 16)), UInt8.ofNat (U.hxN (U.at' s p % 16))]).length (cellsB (bs ++ h.data.toList ++ [UInt8.ofNat (U.hxN (U.at' s p / 16)), UInt8.ofNat (U.hxN (U.at' s p % 16))]))) := hd <| by
                rw [cellsB_app, cellsB_app, List.length_append, List.length_append, HNEW.o, ← Lib.size_eq]
                exact ho'
              clear ho1 ho' hg'
              go_simp
              go_wp2
              go_roundw
              case rel => exact ⟨p + 1, _, by omega, by go_num, HO.o, hbw', G⟩
              case measure => simp [intOf]; omega
        · rw [show f (UInt8.ofNat (U.at' s p)) = [UInt8.ofNat (U.at' s p)] by rw [HF.o]; exact U.wrB_self _ _ _ _ hlt hb0 hx] at hstep
          have G : Hd (bs ++ [UInt8.ofNat (U.at' s p)] = 34 :: (s.data.toList.take (p + 1)).flatMap f) := hd <| by rw [hstep, hr.o]; rfl
          have HNEW : Hd (cellsB [UInt8.ofNat (U.at' s p)] = [.int .u8 (U.at' s p : Int)]) := hd <| by
            simp only [cellsB, List.map_cons, List.map_nil]
            rw [U.ofNat_toNat _ hlt]
          have g32 : 32 ≤ U.at' s p := by omega
          have b3 : ((U.at' s p : Int) == 127) = decide (U.at' s p = 127) := by rw [Bool.eq_iff_iff]; simp; omega
          have hx2 : false = true → decide (U.at' s p = 127) = false := by intro h; simp; intro h2; exact hx (.inr ⟨h, h2⟩)
          have b4 : false = true → ((U.at' s p : Int) == 127) = false := fun h => by rw [b3]; exact hx2 h
          clear hstep hb0 hx b3 hx2 b4
          go_wp2_with (first
            | (go_at_call 96; refine (back_any (U.at' s p) _ rfl _ _ hl2 hlt).mono ?_; rintro e w3 ⟨rfl, rfl⟩)
            | (at_builtin; refine wpList_app_lit 40 5 (.int .u8 0) 1 1 Try.underlying40 info_u8 rfl (by decide) rfl _ _ rfl w.heap.size u9 bs.length (cellsB bs) wr #[.int .u8 (U.at' s p : Int)] 1 rfl rfl how rfl ?_ ?_ ?_ hzz ?_))
          any_goals (first | omega | (simp [Value.oneCell']; done))
          intro v' w' ho' hg'
          have hbw' := bel_grown hbw hg' (fun k hk => (how.lt k hk).1)
          have HO : Hd (w'.ownsRow w.heap.size 5 1 v' (bs ++ [UInt8.ofNat (U.at' s p)]).length (cellsB (bs ++ [UInt8.ofNat (U.at' s p)]))) := hd <| by
            rw [cellsB_app, List.length_append, HNEW.o]
            exact ho'
          clear how ho' hg'
          go_wp2
          go_roundw
          case rel => exact ⟨p + 1, _, by omega, by go_num, HO.o, hbw', G⟩
          case measure => simp [intOf]; omega
      · have b0 : ((U.backL l.data.toList (U.at' s p) : Int) != 0) = true := by rw [bne_iff_ne]; omega
        rw [show f (UInt8.ofNat (U.at' s p)) = [92, UInt8.ofNat (U.backL l.data.toList (U.at' s p))] by rw [HF.o]; exact U.wrB_back _ _ _ _ hlt hb0] at hstep
        have G : Hd (bs ++ [92, UInt8.ofNat (U.backL l.data.toList (U.at' s p))] = 34 :: (s.data.toList.take (p + 1)).flatMap f) := hd <| by rw [hstep, hr.o]; rfl
        have HNEW : Hd (cellsB [92, UInt8.ofNat (U.backL l.data.toList (U.at' s p))] = [.int .u8 92, .int .u8 (U.backL l.data.toList (U.at' s p) : Int)]) := hd <| by
          simp only [cellsB, List.map_cons, List.map_nil]
          rw [U.ofNat_toNat _ hbk]; rfl
        clear hstep hb0
        go_wp2_with (first
          | (go_at_call 96; refine (back_any (U.at' s p) _ rfl _ _ hl2 hlt).mono ?_; rintro e w3 ⟨rfl, rfl⟩)
          | (at_builtin; refine wpList_app_lit 40 5 (.int .u8 0) 1 1 Try.underlying40 info_u8 rfl (by decide) rfl _ _ rfl w.heap.size u9 bs.length (cellsB bs) wr #[.int .u8 92, .int .u8 (U.backL l.data.toList (U.at' s p) : Int)] 2 rfl rfl how rfl ?_ ?_ ?_ hzz ?_))
        any_goals (first | omega | (simp [Value.oneCell']; done))
        intro v' w' ho' hg'
        have hbw' := bel_grown hbw hg' (fun k hk => (how.lt k hk).1)
        have HO : Hd (w'.ownsRow w.heap.size 5 1 v' (bs ++ [92, UInt8.ofNat (U.backL l.data.toList (U.at' s p))]).length (cellsB (bs ++ [92, UInt8.ofNat (U.backL l.data.toList (U.at' s p))]))) := hd <| by
          rw [cellsB_app, List.length_append, HNEW.o]
          exact ho'
        clear how ho' hg'
        go_wp2
        go_roundw
        case rel => exact ⟨p + 1, _, by omega, by go_num, HO.o, hbw', G⟩
        case measure => simp [intOf]; omega
    · have G : Hd (bs ++ [34] = 34 :: s.data.toList.flatMap f ++ [34]) := hd <| by
        rw [hr.o, List.take_of_length_le (by rw [← Lib.size_eq]; omega)]
      go_wp2_with (at_builtin; refine wpList_app_lit 40 5 (.int .u8 0) 1 1 Try.underlying40 info_u8 rfl (by decide) rfl _ _ rfl w.heap.size u9 bs.length (cellsB bs) _ #[.int .u8 34] 1 rfl rfl how rfl ?c1 ?c2 ?c3 hzz ?_)
      case c1 => simp [Value.oneCell']
      case c2 => omega
      case c3 => omega
      intro v' w' ho' hg'
      have hbw' := bel_grown hbw hg' (fun k hk => (how.lt k hk).1)
      have HO : w'.ownsRow w.heap.size 5 1 v' (bs ++ [34]).length (cellsB (bs ++ [34])) := by
        rw [cellsB_app, List.length_append]
        exact ho'
      have io := IsL.own HO
      have hcv := run_string_of w' 40 9 5 Try.underlying40 Try.underlying5 Try.underlying9 v' _ _ io
      clear how ho' hg' HO io hr
      go_wp2
      go_ret
      exact ⟨ret_strV (by rw [G.o]; rfl), hbw'⟩

theorem refJson_any (s : ByteArray) (w : World) (hs : s.size ≤ 1048576) :
    Calls Try.prog 67 #[.string s] w fun e w' => e = strR (U.wrS U.wrJ s) ∧ Below w.heap.size w w' := by
  cases hv : U.valid s with
  | false =>
    have V := hd hv
    have G : Hd (U.wrS U.wrJ s = ([], 4)) := hd <| by unfold U.wrS; rw [if_neg (by simp [hv])]
    clear hv
    go_enter Try.func67, Try.ntmps67
    go_wp2_with (go_at_call 59; refine (refValid_any _ _ (by omega)).mono ?_; rintro e w1 ⟨rfl, hb1⟩; rw [V.o])
    go_ret2
    exact ⟨ret_strR (by rw [G.o]) (by rw [G.o]), by assumption⟩
  | true =>
    have V := hd hv
    have G : Hd (U.wrS U.wrJ s = (34 :: s.data.toList.flatMap U.wrJ ++ [34], 0)) := hd <| by unfold U.wrS; rw [if_pos hv]
    clear hv
    go_enter Try.func67, Try.ntmps67
    go_wp2_with (first
      | (go_at_call 59; refine (refValid_any _ _ (by omega)).mono ?_; rintro e w1 ⟨rfl, hb1⟩; rw [V.o])
      | (go_at_call 79; refine (written_false _ _ _ _ hs (by decide) (by decide)).mono ?_; rintro e w2 ⟨rfl, hb2⟩))
    go_ret2
    exact ⟨ret_strR (by rw [G.o]; rfl) (by rw [G.o]), bel (by assumption) (by assumption)⟩
end Go.Proofs.Ytifaepkeoffcfaa
