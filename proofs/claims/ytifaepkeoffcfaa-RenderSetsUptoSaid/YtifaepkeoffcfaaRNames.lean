/- render.Names and its reference. -/
import Derived.Test.YtifaepkeoffcfaaRRef
namespace Go.Proofs.Ytifaepkeoffcfaa
open Go.RowKit
set_option linter.unusedVariables false
set_option linter.unusedSimpArgs false
theorem nm1_any (l : List ByteArray) (A : Option Addr) (n c : Nat) (w0 w : World) (g b : Nat) (bs : List UInt8) (i : Nat) (hi : i < l.length)
    (hb : w0.cell? ⟨b, 0, none⟩ = some (.slice A n c)) (hl : IsL 1 w0 (.slice A n c) n (cellsS l)) (hg : w0.heap.size = g) (hO : Ou w0 w g bs) (hs : (l[i]'hi).size ≤ 1048576) (hn : bs.length ≤ 70368744177664) :
    Calls Try.prog 46 #[.int .i64 i, .pointer (some ⟨g, 0, none⟩), .pointer (some ⟨b, 0, none⟩)] w fun e w' => e = .returned (.tuple #[]) ∧ Ou w0 w' g (bs ++ R.t (l[i]'hi)) := by
  have hin : i < n := by rw [← strs_len hl]; exact hi
  have hbl : b < w0.heap.size := World.block_lt_of_cell? w0 _ hb
  have d1 := (hO.bel.cell (p := ⟨b, 0, none⟩) (show b < g by omega)).trans hb
  obtain ⟨b2, off, rfl, hb2, c0⟩ := strs_at hl i hi
  have d0 := (hO.bel.cell (p := ⟨b2, off + i, none⟩) (show b2 < g by omega)).trans c0
  have HO := hd hO
  clear hb hl hO c0
  generalize l[i]'hi = s at *
  go_enter Try.func46, Try.ntmps46
  go_wp2_with (go_at_call 47; refine (text_any s w0 _ g bs HO.o hs hn).mono ?_; rintro e w2 ⟨rfl, hO2⟩; have HO2 := hd hO2; clear hO2)
  go_end0
  exact ⟨rfl, HO2.o⟩
set_option maxHeartbeats 1000000 in
theorem nmlist_any (l : List ByteArray) (A : Option Addr) (n c : Nat) (w0 w : World) (g b : Nat) (bs : List UInt8)
    (hb : w0.cell? ⟨b, 0, none⟩ = some (.slice A n c)) (hl : IsL 1 w0 (.slice A n c) n (cellsS l)) (hg : w0.heap.size = g) (hO : Ou w0 w g bs) (hs : ∀ x ∈ l, x.size ≤ 1048576) (hn : bs.length ≤ 1000) (hn2 : n ≤ 1048576) :
    Calls Try.prog 45 #[.pointer (some ⟨g, 0, none⟩), .int .i64 n, .func (.func 46) #[] #[.pointer (some ⟨g, 0, none⟩), .pointer (some ⟨b, 0, none⟩)]] w fun e w' => e = .returned (.tuple #[]) ∧ Ou w0 w' g (bs ++ R.lst (l.map R.t)) := by
  have HN := hd (strs_len hl)
  have HL := hd hl
  have HB := hd hb
  have HS := hd hs
  have HO := hd hO
  obtain ⟨xs, hxs⟩ : ∃ xs, xs = l.map R.t := ⟨_, rfl⟩
  have HX := hd hxs
  have HXL : Hd (xs.length = n) := hd (by rw [HX.o, List.length_map, HN.o])
  have HJ : Hd (∀ k, k ≤ n → (R.jn (xs.take k)).length ≤ 35184405643264) := hd fun k hk => by
    have := R.jn_len 6291458 k xs (by rw [HX.o]; intro x hx; obtain ⟨y, hy, rfl⟩ := List.mem_map.1 hx; have := R.t_len y; have := HS.o y hy; omega)
    have := Nat.mul_le_mul (show k ≤ 1048576 by omega) (show 6291458 + 1 ≤ 33554433 by omega)
    omega
  rw [← hxs]
  clear hb hl hs hO hxs
  go_enter Try.func45, Try.ntmps45
  go_wp2_with (go_at_call 44; refine (put_any _ w0 _ g bs HO.o (by have : ByteArray.size ⟨#[91]⟩ = 1 := rfl; omega)).mono ?_; rintro e w2 ⟨rfl, hO2⟩; have HO2 : Hd (Ou w0 w2 g (bs ++ [91])) := hd hO2; clear hO2 HO)
  go_loopw [10] (fun x w2 => ∃ (k : Nat) (cs : List UInt8), k ≤ n ∧ x = .int .i64 k ∧ Hd (cs = bs ++ 91 :: R.jn (xs.take k)) ∧ Hd (Ou w0 w2 g cs)) (fun x _ => n - (intOf x).toNat)
  case atStart => exact ⟨0, _, Nat.zero_le _, rfl, hd rfl, HO2⟩
  case round =>
    clear HO2
    obtain ⟨k, cs, hk, rfl, hcs, HO⟩ := hrel
    have hlen : cs.length ≤ 35184405644265 := by rw [hcs.o, List.length_append, List.length_cons]; have := HJ.o k hk; omega
    by_cases hlt : k < n
    · have hkx : k < l.length := by rw [HN.o]; exact hlt
      have hsx : (l[k]'hkx).size ≤ 1048576 := HS.o _ (List.getElem_mem hkx)
      have HK : Hd (xs[k]'(by rw [HXL.o]; exact hlt) = R.t (l[k]'hkx)) := hd (by simp [HX.o])
      have HJT := hd (R.jn_take xs k (by rw [HXL.o]; exact hlt))
      rw [HK.o] at HJT
      by_cases h0 : k = 0
      · have G : Hd (cs ++ R.t (l[k]'hkx) = bs ++ 91 :: R.jn (xs.take (k + 1))) := hd (by rw [HJT.o, if_pos h0, hcs.o, show R.jn (xs.take k) = [] from by rw [h0]; rfl]; simp)
        have hk0 : ¬ 0 < k := by omega
        clear HJT hcs h0
        go_wp2_with (go_at_call 46; refine (nm1_any l A n c w0 _ g b cs k hkx HB.o HL.o hg HO.o hsx (by omega)).mono ?_; rintro e w3 ⟨rfl, hO3⟩; have HO3 := hd hO3; clear hO3)
        go_roundw
        case rel => exact ⟨k + 1, _, by omega, by go_num, G, HO3⟩
        case measure => simp [intOf]; omega
      · have G : Hd (cs ++ [44] ++ R.t (l[k]'hkx) = bs ++ 91 :: R.jn (xs.take (k + 1))) := hd (by rw [HJT.o, if_neg h0, hcs.o]; simp)
        have hk0 : 0 < k := by omega
        have hl4 : (cs ++ [44]).length ≤ 70368744177664 := by rw [List.length_append]; show cs.length + 1 ≤ _; omega
        have HL4 := hd hl4
        clear HJT hcs h0 hl4
        go_wp2_with (first
          | (go_at_call 44; refine (put_any _ w0 _ g cs HO.o (by have : ByteArray.size ⟨#[44]⟩ = 1 := rfl; omega)).mono ?_; rintro e w2 ⟨rfl, hO2⟩; have HO2 : Hd (Ou w0 w2 g (cs ++ [44])) := hd hO2; clear hO2)
          | (go_at_call 46; refine (nm1_any l A n c w0 _ g b (cs ++ [44]) k hkx HB.o HL.o hg HO2.o hsx HL4.o).mono ?_; rintro e w3 ⟨rfl, hO3⟩; have HO3 := hd hO3; clear hO3))
        go_roundw
        case rel => exact ⟨k + 1, _, by omega, by go_num, G, HO3⟩
        case measure => simp [intOf]; omega
    · have hkn : k = n := by omega
      subst hkn
      have HE : Hd (cs ++ [93] = bs ++ R.lst xs) := hd (by rw [hcs.o, List.take_of_length_le (by rw [HXL.o]; exact Nat.le_refl _)]; unfold R.lst; simp)
      go_wp2_with (go_at_call 44; refine (put_any _ w0 _ g cs HO.o (by have : ByteArray.size ⟨#[93]⟩ = 1 := rfl; omega)).mono ?_; rintro e w2 ⟨rfl, hO2⟩; have HO2 : Hd (Ou w0 w2 g (bs ++ R.lst xs)) := hd (by rw [← HE.o]; exact hO2); clear hO2)
      go_end0
      exact ⟨rfl, HO2.o⟩
/-- the answer over parts -/
def R.ans (xs : List (List UInt8)) : List UInt8 := [123, 34, 115, 116, 97, 116, 117, 115, 34, 58, 34, 115, 117, 99, 99, 101, 115, 115, 34, 44, 34, 100, 97, 116, 97, 34, 58] ++ R.lst xs ++ [125]
theorem R.lst_len (M : Nat) (xs : List (List UInt8)) (h : ∀ x ∈ xs, x.length ≤ M) : (R.lst xs).length ≤ xs.length * (M + 1) + 2 := by
  have := R.jn_len M xs.length xs h
  rw [List.take_of_length_le (Nat.le_refl _)] at this
  unfold R.lst
  rw [List.length_append, List.length_cons, List.length_singleton]
  omega
theorem names_any (l : List ByteArray) (A : Option Addr) (n c : Nat) (w : World) (hl : IsL 1 w (.slice A n c) n (cellsS l)) (hs : ∀ x ∈ l, x.size ≤ 1048576) (hn2 : n ≤ 1048576) :
    Calls Try.prog 22 #[.slice A n c] w fun e w' => (∃ v m, e = .returned v ∧ IsL 1 w' v m (cellsB (R.ans (l.map R.t)))) ∧ Below w.heap.size w w' := by
  have HN := hd (strs_len hl)
  have HL := hd hl
  have HS := hd hs
  have HLL : Hd ((R.lst (l.map R.t)).length ≤ 35184405643266) := hd (by
    have := R.lst_len 6291458 (l.map R.t) (by intro x hx; obtain ⟨y, hy, rfl⟩ := List.mem_map.1 hx; have := R.t_len y; have := HS.o y hy; omega)
    have := Nat.mul_le_mul (show (l.map R.t).length ≤ 1048576 by rw [List.length_map, HN.o]; exact hn2) (show 6291458 + 1 ≤ 33554433 by omega)
    omega)
  clear hl hs
  obtain ⟨W, hW⟩ : ∃ W, W = w.alloc (.cells #[.slice A n c] 27) := ⟨_, rfl⟩
  have HBX : Hd (W.cell? ⟨w.heap.size, 0, none⟩ = some (.slice A n c)) := hd (by rw [hW]; simp)
  have HBW : Hd (Below w.heap.size w W) := hd (by rw [hW]; exact (Below.refl _ _).alloc (Nat.le_refl _) _)
  have hWz : W.heap.size = w.heap.size + 1 := by rw [hW]; simp
  have HWL := hd (HL.o.below HBW.o)
  have HO0 : Hd (Ou W (W.alloc (.cells #[.slice none 0 0] 70)) (w.heap.size + 1) []) := hd <| by
    refine ⟨⟨none, 0, 0, ?_, ⟨rfl, .inl ⟨rfl, rfl⟩⟩, rfl⟩, ?_⟩
    · show (W.heap.push (.cells #[.slice none 0 0] 70))[w.heap.size + 1]? = _
      rw [← hWz]; simp
    · exact (Below.refl _ _).alloc (by omega) _
  go_enter Try.func22, Try.ntmps22
  go_wp2_with fail
  rw [← hW]
  clear hW
  refine (put_any _ W _ (w.heap.size + 1) [] HO0.o (by decide)).mono ?_
  rintro e w1 ⟨rfl, hO1⟩
  have HO1 := hd hO1
  clear hO1 HO0
  have e1 := (HO1.o.bel.cell (p := ⟨w.heap.size, 0, none⟩) (Nat.lt_succ_self _)).trans HBX.o
  go_wp2_with fail
  refine (nmlist_any l A n c W _ (w.heap.size + 1) w.heap.size _ HBX.o HWL.o hWz HO1.o HS.o (by decide) hn2).mono ?_
  rintro e w2 ⟨rfl, hO2⟩
  have HO2 := hd hO2
  clear hO2 HO1
  go_wp2_with fail
  refine (put_any ⟨#[125]⟩ W _ (w.heap.size + 1) _ HO2.o ?_).mono ?_
  · have h1 := HLL.o
    have : ByteArray.size ⟨#[125]⟩ = 1 := rfl
    have : (([] : List UInt8) ++ [123, 34, 115, 116, 97, 116, 117, 115, 34, 58, 34, 115, 117, 99, 99, 101, 115, 115, 34, 44, 34, 100, 97, 116, 97, 34, 58]).length = 27 := rfl
    rw [List.length_append]
    omega
  rintro e w3 ⟨rfl, hO3⟩
  obtain ⟨A', n', c', k1, k2, k3⟩ := hO3.ex
  have e0 := k1.cell 0 (by simp)
  simp only [List.getElem_cons_zero] at e0
  have HQ : Hd (IsL 1 w3 (.slice A' n' c') n' (cellsB (R.ans (l.map R.t)))) := hd (by subst k3; exact IsL.own k2)
  have HB3 : Hd (Below w.heap.size w w3) := hd (HBW.o.trans (hO3.bel.mono (by omega)))
  clear hO3 HO2 k1 k2 k3
  go_wp2
  go_ret
  exact ⟨⟨_, _, rfl, HQ.o⟩, HB3.o⟩
theorem strS (l : List ByteArray) (k : Nat) (h : k < l.length) : cellsS (l.take (k + 1)) = cellsS (l.take k) ++ [.string (l[k]'h)] := by
  rw [List.take_succ_eq_append_getElem h]; unfold cellsS; rw [List.map_append]; rfl
def R.bt (l : List UInt8) : ByteArray := ⟨l.toArray⟩
theorem info_str : (Try.prog.info? 9).map (fun i => (i.zero, i.size, i.bytes)) = some (some (.string ⟨#[]⟩), 1, 16) := by kernel_rfl
theorem R.bt_map (xs : List (List UInt8)) : (xs.map R.bt).map (fun x => x.data.toList) = xs := by
  rw [List.map_map]
  have : ((fun x : ByteArray => x.data.toList) ∘ R.bt) = id := by funext x; rfl
  rw [this, List.map_id]
/-- '[]byte(s)' reads as the bytes -/
theorem isL_of_cells {w : World} {g c : Nat} (s : ByteArray) (h : ∀ k, k < s.size → w.cell? ⟨g, k, none⟩ = some (.int .u8 (U.at' s k : Int))) : IsL 1 w (.slice (some ⟨g, 0, none⟩) s.size c) s.size (cellsB s.data.toList) := by
  refine ⟨by rw [cellsB_len, ← Lib.size_eq, Nat.mul_one], _, _, rfl, fun k hk => ⟨g, 0, rfl, ?_⟩⟩
  rw [cellsB_len, ← Lib.size_eq] at hk
  obtain ⟨h', e⟩ := list_at s k hk
  rw [Nat.zero_add, h k hk, ← e]
  simp [cellsB]
theorem wpList_bytes_isL {P : Program} {ops : Array Oper} {rest : List Oper} {o : Oper} {a : Act} {Q : Exit → Act → World → Prop} (w : World) (src dst e : TypeId) (s : ByteArray) (hs : P.underlying src = some .string) (hd : P.underlying dst = some (.slice e)) (he : P.underlying e = some (.int .u8))
    (hg : Region.wanted o (yielded ops a.tmps) = true) (x : Operand) (ho : o.op = .convert src dst x) (hx : a.eval x = .string s)
    (h : ∀ v' w', Below w.heap.size w w' → (∃ m, IsL 1 w' v' m (cellsB s.data.toList)) → wpList P ops Q rest (a.put o.dst v') w') :
    wpList P ops Q (o :: rest) a w :=
  wpList_bytes_of w src dst e s hs hd he hg x ho hx fun cap w' h1 _ h3 => h _ w' h1 ⟨_, isL_of_cells (c := cap) s h3⟩
set_option maxHeartbeats 1000000 in
theorem refnames_any (l : List ByteArray) (A : Option Addr) (n c : Nat) (w : World) (hl : IsL 1 w (.slice A n c) n (cellsS l)) (hs : ∀ x ∈ l, x.size ≤ 1048576) (hn2 : n ≤ 1048576) :
    Calls Try.prog 23 #[.slice A n c] w fun e w' => (∃ v m, e = .returned v ∧ IsL 1 w' v m (cellsB (R.ans (l.map R.t)))) ∧ Below w.heap.size w w' := by
  have HN := hd (strs_len hl)
  have HL := hd hl
  have HS := hd hs
  obtain ⟨ys, hys⟩ : ∃ ys, ys = (l.map R.t).map R.bt := ⟨_, rfl⟩
  have HY := hd hys
  have HYL : Hd (ys.length = n) := hd (by rw [HY.o, List.length_map, List.length_map, HN.o])
  clear hl hs hys
  go_enter Try.func23, Try.ntmps23
  go_wp2
  go_loopw [3, 8] (fun v x w2 => ∃ (k : Nat), k ≤ n ∧ x = .int .i64 k ∧ Hd (w2.ownsRow w.heap.size 9 1 v k (cellsS (ys.take k))) ∧ Hd (Below w.heap.size w w2)) (fun _ x _ => n - (intOf x).toNat)
  case atStart => exact ⟨0, Nat.zero_le _, rfl, hd ⟨rfl, .inl ⟨rfl, rfl⟩⟩, hd (Below.refl _ _)⟩
  case round =>
    obtain ⟨k, hk, rfl, HO, HB⟩ := hrel
    by_cases hlt : k < n
    · have hkx : k < l.length := by rw [HN.o]; exact hlt
      obtain ⟨b, off, rfl, hbl, c0⟩ := strs_at HL.o k hkx
      have d0 := (HB.o.cell (p := ⟨b, off + k, none⟩) hbl).trans c0
      have hsx : (l[k]'hkx).size ≤ 1048576 := HS.o _ (List.getElem_mem hkx)
      have HK : Hd (cellsS (ys.take (k + 1)) = cellsS (ys.take k) ++ [.string ⟨(R.t (l[k]'hkx)).toArray⟩]) := hd (by rw [strS ys k (by rw [HYL.o]; exact hlt)]; simp [HY.o, R.bt])
      clear c0
      generalize l[k]'hkx = s at *
      go_wp2_with (first
        | (go_at_call 48; refine (reftext_any s _ hsx).mono ?_; rintro e w3 ⟨rfl, hb3⟩; have HB3 := hd (bel HB.o hb3); have HO3 := hd (own_below HO.o hb3); clear hb3 HO HB)
        | (at_builtin; refine wpList_app_litH 27 9 (.string ⟨#[]⟩) 1 16 Try.underlying27 info_str rfl (by decide) rfl _ _ rfl w.heap.size u3 k (cellsS (ys.take k)) w3 #[.string ⟨(R.t s).toArray⟩] 1 _ rfl rfl rfl HO3.o rfl (by simp [Value.oneCell']) (by omega) (by omega) HB3.o.size ?_))
      intro v4 w4 ho4 hg4
      have HB4 := hd (HB3.o.grown hg4 HB3.o.size (fun g hg => (HO3.o.lt g hg).1))
      have HO4 : Hd (w4.ownsRow w.heap.size 9 1 v4 (k + 1) (cellsS (ys.take (k + 1)))) := hd (by rw [HK.o]; exact ho4)
      clear ho4 hg4
      go_wp2
      go_roundw
      case rel => exact ⟨k + 1, by omega, by go_num, HO4, HB4⟩
      case measure => simp [intOf]; omega
    · have hkn : k = n := by omega
      subst hkn
      have h1 := IsL.own HO.o
      rw [List.take_of_length_le (by rw [HYL.o]; exact Nat.le_refl _)] at h1
      have HI := hd h1
      have hms : ∀ y ∈ ys, y.size ≤ 6291458 := by
        intro y hy
        rw [HY.o] at hy
        obtain ⟨z, hz, rfl⟩ := List.mem_map.1 hy
        obtain ⟨u, hu, rfl⟩ := List.mem_map.1 hz
        have h2 := R.t_len u
        have h3 := HS.o u hu
        show (R.t u).length ≤ _
        omega
      have HMS := hd hms
      have HR : Hd (R.lst (ys.map fun x => x.data.toList) = R.lst (l.map R.t)) := hd (by rw [HY.o, R.bt_map])
      have HAN : Hd (((⟨#[123, 34, 115, 116, 97, 116, 117, 115, 34, 58, 34, 115, 117, 99, 99, 101, 115, 115, 34, 44, 34, 100, 97, 116, 97, 34, 58]⟩ : ByteArray) ++ ⟨(R.lst (l.map R.t)).toArray⟩ ++ (⟨#[125]⟩ : ByteArray)).data.toList = R.ans (l.map R.t)) := hd (by simp [R.ans])
      have hLL : (R.lst (l.map R.t)).length ≤ 35184405643266 := by
        have := R.lst_len 6291458 (l.map R.t) (by intro x hx; obtain ⟨y, hy, rfl⟩ := List.mem_map.1 hx; have := R.t_len y; have := HS.o y hy; omega)
        have := Nat.mul_le_mul (show (l.map R.t).length ≤ 1048576 by rw [List.length_map, HN.o]; exact hn2) (show 6291458 + 1 ≤ 33554433 by omega)
        omega
      generalize R.lst (l.map R.t) = q at *
      have b1 : ¬ 9223372036854775807 < 27 + q.length := by omega
      have b2 : ¬ 281474976710656 < 27 + q.length := by omega
      have b3 : ¬ 9223372036854775807 < 27 + q.length + 1 := by omega
      have b4 : ¬ 281474976710656 < 27 + q.length + 1 := by omega
      clear h1 hms
      go_wp2_with (first
        | (go_at_call 49; refine (reflist_any u3 k ys _ HI.o hn2 6291458 (by decide) HMS.o).mono ?_; rintro e w3 ⟨rfl, hb3⟩; rw [HR.o]; have HB3 := hd (bel HB.o hb3); clear hb3 HO HB)
        | (refine wpList_bytes_isL _ 9 40 5 _ Try.underlying9 Try.underlying40 Try.underlying5 rfl _ rfl rfl ?_
           intro v4 w4 hb4 h4
           rw [HAN.o] at h4))
      have H4 := hd h4
      have HB4 := hd (bel HB3.o hb4)
      clear hb4 h4
      go_wp2
      go_ret
      exact ⟨⟨_, H4.o.choose, rfl, H4.o.choose_spec⟩, HB4.o⟩
end Go.Proofs.Ytifaepkeoffcfaa
