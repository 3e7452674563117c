/- weirref24.SameLabels, SameVector, SamePoints, SameMatrix, SameResult over alike answers (printed by a program of mine). weirlaw29.isTime, texts, plain. weirlaw29.used (printed by a program of mine). RenderBack: what Back answers and what used answers are alike. RenderBack: the law's walk. -/
import Derived.Test.YteckfdohgiddgaaGreatDoorJBack
import Derived.Test.YteckfdohgiddgaaGreatDoorBQuiet
import Derived.Test.YteckfdohgiddgaaGreatDoorRRC
import Derived.Test.YteckfdohgiddgaaGreatDoorRNamesW
import Derived.Deep.RegionWith
namespace Go.Proofs.YteckfdohgiddgaaGreatDoor
open Go.RowKit
set_option linter.unusedVariables false
set_option linter.unusedSimpArgs false
theorem flatM {α : Type} (enc : α → List Value) (m : Nat) : ∀ (L : List α), (∀ x ∈ L, (enc x).length = m) → ∀ (i : Nat) (hi : i < L.length) (j : Nat), j < m → (L.flatMap enc)[i * m + j]? = (enc (L[i]'hi))[j]?
  | x :: L, h, 0, hi, j, hj => by
    rw [List.flatMap_cons, Nat.zero_mul, Nat.zero_add, List.getElem?_append_left (by rw [h x (by simp)]; exact hj)]; rfl
  | x :: L, h, i + 1, hi, j, hj => by
    have hx := h x (by simp)
    rw [List.flatMap_cons, List.getElem?_append_right (by rw [hx, Nat.succ_mul]; omega), hx, show (i + 1) * m + j - m = i * m + j by rw [Nat.succ_mul]; omega]
    exact flatM enc m L (fun y hy => h y (by simp [hy])) i (by simpa using hi) j hj
theorem jrow_of {α : Type} {m : Nat} {enc : α → List Value} {Q : World → α → Prop} {w : World} {A : Option Addr} {c : Nat} {L : List α} (hm : 0 < m) (hl : ∀ x ∈ L, (enc x).length = m) (h : IsL m w (.slice A L.length c) L.length (L.flatMap enc)) (hQ : ∀ x ∈ L, Q w x) : RS.Row m enc Q w A L := by
  intro i hi
  obtain ⟨hlen, A', c', e, hr⟩ := h
  simp only [Value.slice.injEq, true_and] at e
  obtain ⟨rfl, rfl⟩ := e
  have hpos : 0 < (L.flatMap enc).length := by rw [hlen]; exact Nat.mul_pos (by omega) hm
  obtain ⟨b, off, rfl, hb, hc⟩ := hr.head hpos
  refine ⟨b, off, rfl, hb, fun j hj => ?_, hQ _ (List.getElem_mem hi)⟩
  have hx := hl _ (List.getElem_mem hi)
  have h1 := flatM enc m L hl i hi j (by omega)
  rw [List.getElem?_eq_getElem hj] at h1
  obtain ⟨h2, h3⟩ := List.getElem?_eq_some_iff.1 h1
  rw [Nat.add_assoc, hc _ h2, h3]
theorem RJ.EK.rows {B : Nat} {W : World} {A : Option Addr} {c : Nat} {E : List RS.El} (h : RJ.EK B W (.slice A E.length c) E) (hs : ∀ x ∈ E, RS.SmL' x.l ∧ x.f < 18446744073709551616) : RS.IsEs W A E :=
  jrow_of (by decide) (fun _ _ => rfl) (IsL.own h.own) (fun x hx => ⟨IsL.own (h.lab x hx), hs x hx⟩)
theorem RJ.pts_rows {B : Nat} {W : World} {A : Option Addr} {c : Nat} {Q : List RS.Pt} (h : W.ownsRow B 77 3 (.slice A Q.length c) Q.length (RJ.cellsP Q)) (hs : ∀ x ∈ Q, x.ok) : RS.IsPs W A Q :=
  jrow_of (by decide) (fun _ _ => rfl) (IsL.own h) hs
theorem RJ.SK.rows {B : Nat} {W : World} {A : Option Addr} {c : Nat} {E : List RS.Sr} (h : RJ.SK B W (.slice A E.length c) E) (hs : ∀ x ∈ E, RS.SmL' x.l ∧ ∀ p ∈ x.ps, p.ok) : RS.IsSs W A E :=
  jrow_of (by decide) (fun _ _ => rfl) (IsL.own h.own) (fun x hx => ⟨IsL.own (h.lab x hx), (hs x hx).1, RJ.pts_rows (c := x.pc) (h.pts x hx) (hs x hx).2⟩)
set_option maxHeartbeats 1000000 in
theorem smlab_any (A B : Option Addr) (n ca cb : Nat) (xs : List Lb) (w : World) (hx : IsL 2 w (.slice A n ca) n (cellsL xs)) (hy : IsL 2 w (.slice B n cb) n (cellsL xs)) (hn : n ≤ 1125899906842624) :
    Calls Tryz.prog 88 #[.slice A n ca, .slice B n cb] w fun e w' => e = .returned (.bool true) ∧ Below w.heap.size w w' := by
  have HX := hd (IsLb.len hx)
  have H1 := hd hx
  have H2 := hd hy
  have hle := label_eq
  clear hx hy
  go_enter Tryz.func88, Tryz.ntmps88
  go_wp2
  go_loopw [13] (fun x wr => ∃ k q : Nat, k ≤ n ∧ x = .int .i64 k ∧ wr = w.drewN q) (fun x _ => n - (intOf x).toNat)
  case atStart => exact ⟨0, 0, Nat.zero_le _, rfl, rfl⟩
  case round =>
    obtain ⟨k, q, hk, rfl, rfl⟩ := hrel
    by_cases hlt : k < n
    · have hkx : k < xs.length := by rw [HX.o]; exact hlt
      obtain ⟨b1, o1, rfl, _, c1, c2⟩ := IsLb.at_ H1.o k hkx
      obtain ⟨b2, o2, rfl, _, c3, c4⟩ := IsLb.at_ H2.o k hkx
      have hik : (0 : Int) ≤ (k : Int) := by omega
      have hikn : (k : Int) < (n : Int) := by omega
      generalize xs[k] = x at *
      have hl : (x.1.toList == x.1.toList && x.2.toList == x.2.toList) = true := by simp
      go_wp2_with fail
      go_quiet (fail)
      go_wp2
      go_roundw
      case rel => exact ⟨k + 1, _, by omega, by go_num, rfl⟩
      case measure => simp [intOf]; omega
    · go_wp2
      go_ret
      exact ⟨rfl, bel_drew (Below.refl _ _) _⟩
set_option maxRecDepth 100000 in
set_option maxHeartbeats 4000000 in
theorem smvec_any (A B : Option Addr) (ca cb : Nat) (L M : List RS.El) (w : World) (hA : RS.IsEs w A L) (hB : RS.IsEs w B M) (hlen : L.length = M.length) (hr : ∀ i (h : i < L.length) (h' : i < M.length), (L[i]'h).l = (M[i]'h').l ∧ FO.same (L[i]'h).f (M[i]'h').f = true ∧ (L[i]'h).l.length ≤ 1125899906842624) (hn : L.length ≤ 1125899906842624) :
    Calls Tryz.prog 52 #[.slice A L.length ca, .slice B M.length cb] w fun e w' => e = .returned (.bool true) ∧ Below w.heap.size w w' := by
  have HA := hd hA
  have HB := hd hB
  have HR := hd hr
  have HL := hd hlen
  obtain ⟨N, hN⟩ : ∃ N, N = L.length := ⟨_, rfl⟩
  rw [← hlen, ← hN]
  have HN := hd hN
  rw [← hN] at hn
  clear hA hB hr hlen hN
  go_enter Tryz.func52, Tryz.ntmps52
  go_wp2
  go_loopw [13] (fun x wr => ∃ k : Nat, k ≤ N ∧ x = .int .i64 k ∧ Hd (Below w.heap.size w wr)) (fun x _ => N - (intOf x).toNat)
  case atStart => exact ⟨0, Nat.zero_le _, rfl, hd (Below.refl _ _)⟩
  case round =>
    obtain ⟨k, hk, rfl, HW⟩ := hrel
    by_cases hlt : k < N
    · have hkL : k < L.length := by rw [← HN.o]; exact hlt
      have hkM : k < M.length := by rw [← HL.o]; exact hkL
      have hik : (0 : Int) ≤ (k : Int) := by omega
      have hikn : (k : Int) < (N : Int) := by omega
      have hRk := HR.o k hkL hkM
      obtain ⟨b1, o1, rfl, hb1, c0, c1, hI, hS, hf⟩ := HA.o.at_ k hkL
      obtain ⟨b2, o2, rfl, hb2', d0, d1, hI', hS', hf'⟩ := HB.o.at_ k hkM
      have c0 := (HW.o.cell (p := ⟨b1, o1 + k * 2, none⟩) hb1).trans c0
      have c1 := (HW.o.cell (p := ⟨b1, o1 + k * 2 + 1, none⟩) hb1).trans c1
      have d0 := (HW.o.cell (p := ⟨b2, o2 + k * 2, none⟩) hb2').trans d0
      have d1 := (HW.o.cell (p := ⟨b2, o2 + k * 2 + 1, none⟩) hb2').trans d1
      have HI := hd hI
      have HI' := hd hI'
      have HF := hd (And.intro hf hf')
      have HRk := hd hRk
      clear hI hI' hf hf' hS hS'
      clear hRk
      generalize L[k]'hkL = x at *
      generalize M[k]'hkM = y at *
      have C1 := hd (show ∀ p : BelW wr, Calls Tryz.prog 88 #[x.sl, y.sl] p.w fun e w' => e = .returned (.bool true) ∧ Below p.w.heap.size p.w w' from fun p => by
        have h1 := HI.o.below (HW.o.trans (p.h.mono HW.o.size))
        have h2 := HI'.o.below (HW.o.trans (p.h.mono HW.o.size))
        unfold RS.El.sl at h1 h2 ⊢
        rw [← HRk.o.1] at h2 ⊢
        exact smlab_any _ _ _ _ _ x.l p.w h1 h2 HRk.o.2.2)
      have C2 := hd (fun p : BelW wr => by
        have h := refsame_any x.f y.f p.w HF.o.1 HF.o.2
        rw [HRk.o.2.1] at h
        exact h)
      unfold RS.El.sl at c0 d0 C1
      have g0 := fun p : BelW wr => p.cell c0
      have g1 := fun p : BelW wr => p.cell c1
      have g2 := fun p : BelW wr => p.cell d0
      have g3 := fun p : BelW wr => p.cell d1
      clear c0 c1 d0 d1
      go_wp2_with fail
      refine wp_region_below (by kernel_rfl) (by kernel_rfl) ?_

      repeat (go_big_quiet_step (first | (go_at_call 88; exact Calls.below_of (C1.o _)) | (go_at_call 51; exact Calls.below_same (C2.o _))))
      refine wpQuiet_nil ?_
      rintro _ ⟨⟨w2, hb2⟩, rfl⟩
      have HB2 := hd (bel HW.o hb2)
      clear g0 g1 g2 g3 hb2
      go_wp2
      go_roundw
      case rel => exact ⟨k + 1, by omega, by go_num, HB2⟩
      case measure => simp [intOf]; omega
    · go_wp2
      go_ret
      exact ⟨rfl, HW.o⟩
set_option maxRecDepth 100000 in
set_option maxHeartbeats 4000000 in
theorem smpts_any (A B : Option Addr) (ca cb : Nat) (L M : List RS.Pt) (w : World) (hA : RS.IsPs w A L) (hB : RS.IsPs w B M) (hlen : L.length = M.length) (hr : ∀ i (h : i < L.length) (h' : i < M.length), (L[i]'h).t = (M[i]'h').t ∧ (L[i]'h).st = (M[i]'h').st ∧ FO.same (L[i]'h).f (M[i]'h').f = true) (hn : L.length ≤ 1125899906842624) :
    Calls Tryz.prog 89 #[.slice A L.length ca, .slice B M.length cb] w fun e w' => e = .returned (.bool true) ∧ Below w.heap.size w w' := by
  have HA := hd hA
  have HB := hd hB
  have HR := hd hr
  have HL := hd hlen
  obtain ⟨N, hN⟩ : ∃ N, N = L.length := ⟨_, rfl⟩
  rw [← hlen, ← hN]
  have HN := hd hN
  rw [← hN] at hn
  clear hA hB hr hlen hN
  go_enter Tryz.func89, Tryz.ntmps89
  go_wp2
  go_loopw [13] (fun x wr => ∃ k : Nat, k ≤ N ∧ x = .int .i64 k ∧ Hd (Below w.heap.size w wr)) (fun x _ => N - (intOf x).toNat)
  case atStart => exact ⟨0, Nat.zero_le _, rfl, hd (Below.refl _ _)⟩
  case round =>
    obtain ⟨k, hk, rfl, HW⟩ := hrel
    by_cases hlt : k < N
    · have hkL : k < L.length := by rw [← HN.o]; exact hlt
      have hkM : k < M.length := by rw [← HL.o]; exact hkL
      have hik : (0 : Int) ≤ (k : Int) := by omega
      have hikn : (k : Int) < (N : Int) := by omega
      have hRk := HR.o k hkL hkM
      obtain ⟨b1, o1, rfl, hb1, c0, c1, c2, hf⟩ := HA.o.at_ k hkL
      obtain ⟨b2, o2, rfl, hb2', d0, d1, d2, hf'⟩ := HB.o.at_ k hkM
      have c0 := (HW.o.cell (p := ⟨b1, o1 + k * 3, none⟩) hb1).trans c0
      have c1 := (HW.o.cell (p := ⟨b1, o1 + k * 3 + 1, none⟩) hb1).trans c1
      have c2 := (HW.o.cell (p := ⟨b1, o1 + k * 3 + 2, none⟩) hb1).trans c2
      have d0 := (HW.o.cell (p := ⟨b2, o2 + k * 3, none⟩) hb2').trans d0
      have d1 := (HW.o.cell (p := ⟨b2, o2 + k * 3 + 1, none⟩) hb2').trans d1
      have d2 := (HW.o.cell (p := ⟨b2, o2 + k * 3 + 2, none⟩) hb2').trans d2
      have HF := hd (And.intro hf.2.2 hf'.2.2)
      have HRk := hd hRk
      clear hf hf'
      clear hRk
      generalize L[k]'hkL = x at *
      generalize M[k]'hkM = y at *
      rw [← HRk.o.1] at d0
      rw [← HRk.o.2.1] at d2
      have C2 := hd (fun p : BelW wr => by
        have h := refsame_any x.f y.f p.w HF.o.1 HF.o.2
        rw [HRk.o.2.2] at h
        exact h)
      have g0 := fun p : BelW wr => p.cell c0
      have g1 := fun p : BelW wr => p.cell c1
      have g2 := fun p : BelW wr => p.cell d0
      have g3 := fun p : BelW wr => p.cell d1
      have g4 := fun p : BelW wr => p.cell c2
      have g5 := fun p : BelW wr => p.cell d2
      clear c0 c1 d0 d1 c2 d2
      go_wp2_with fail
      refine wp_region_below (by kernel_rfl) (by kernel_rfl) ?_

      repeat (go_big_quiet_step (first | (go_at_call 51; exact Calls.below_same (C2.o _))))
      refine wpQuiet_nil ?_
      rintro _ ⟨⟨w2, hb2⟩, rfl⟩
      have HB2 := hd (bel HW.o hb2)
      clear g0 g1 g2 g3 g4 g5 hb2
      go_wp2
      go_roundw
      case rel => exact ⟨k + 1, by omega, by go_num, HB2⟩
      case measure => simp [intOf]; omega
    · go_wp2
      go_ret
      exact ⟨rfl, HW.o⟩
set_option maxRecDepth 100000 in
set_option maxHeartbeats 4000000 in
theorem smmat_any (A B : Option Addr) (ca cb : Nat) (L M : List RS.Sr) (w : World) (hA : RS.IsSs w A L) (hB : RS.IsSs w B M) (hlen : L.length = M.length) (hr : ∀ i (h : i < L.length) (h' : i < M.length), (L[i]'h).l = (M[i]'h').l ∧ (L[i]'h).l.length ≤ 1125899906842624 ∧ (L[i]'h).ps.length = (M[i]'h').ps.length ∧ (L[i]'h).ps.length ≤ 1125899906842624 ∧ ∀ j (g : j < (L[i]'h).ps.length) (g' : j < (M[i]'h').ps.length), ((L[i]'h).ps[j]'g).t = ((M[i]'h').ps[j]'g').t ∧ ((L[i]'h).ps[j]'g).st = ((M[i]'h').ps[j]'g').st ∧ FO.same ((L[i]'h).ps[j]'g).f ((M[i]'h').ps[j]'g').f = true) (hn : L.length ≤ 1125899906842624) :
    Calls Tryz.prog 53 #[.slice A L.length ca, .slice B M.length cb] w fun e w' => e = .returned (.bool true) ∧ Below w.heap.size w w' := by
  have HA := hd hA
  have HB := hd hB
  have HR := hd hr
  have HL := hd hlen
  obtain ⟨N, hN⟩ : ∃ N, N = L.length := ⟨_, rfl⟩
  rw [← hlen, ← hN]
  have HN := hd hN
  rw [← hN] at hn
  clear hA hB hr hlen hN
  go_enter Tryz.func53, Tryz.ntmps53
  go_wp2
  go_loopw [13] (fun x wr => ∃ k : Nat, k ≤ N ∧ x = .int .i64 k ∧ Hd (Below w.heap.size w wr)) (fun x _ => N - (intOf x).toNat)
  case atStart => exact ⟨0, Nat.zero_le _, rfl, hd (Below.refl _ _)⟩
  case round =>
    obtain ⟨k, hk, rfl, HW⟩ := hrel
    by_cases hlt : k < N
    · have hkL : k < L.length := by rw [← HN.o]; exact hlt
      have hkM : k < M.length := by rw [← HL.o]; exact hkL
      have hik : (0 : Int) ≤ (k : Int) := by omega
      have hikn : (k : Int) < (N : Int) := by omega
      have hRk := HR.o k hkL hkM
      obtain ⟨b1, o1, rfl, hb1, c0, c1, hI, hS, hf⟩ := HA.o.at_ k hkL
      obtain ⟨b2, o2, rfl, hb2', d0, d1, hI', hS', hf'⟩ := HB.o.at_ k hkM
      have c0 := (HW.o.cell (p := ⟨b1, o1 + k * 2, none⟩) hb1).trans c0
      have c1 := (HW.o.cell (p := ⟨b1, o1 + k * 2 + 1, none⟩) hb1).trans c1
      have d0 := (HW.o.cell (p := ⟨b2, o2 + k * 2, none⟩) hb2').trans d0
      have d1 := (HW.o.cell (p := ⟨b2, o2 + k * 2 + 1, none⟩) hb2').trans d1
      have HI := hd hI
      have HI' := hd hI'
      have HF := hd (And.intro hf hf')
      have HRk := hd hRk
      clear hI hI' hf hf' hS hS'
      clear hRk
      generalize L[k]'hkL = x at *
      generalize M[k]'hkM = y at *
      have C1 := hd (show ∀ p : BelW wr, Calls Tryz.prog 88 #[x.sl, y.sl] p.w fun e w' => e = .returned (.bool true) ∧ Below p.w.heap.size p.w w' from fun p => by
        have h1 := HI.o.below (HW.o.trans (p.h.mono HW.o.size))
        have h2 := HI'.o.below (HW.o.trans (p.h.mono HW.o.size))
        unfold RS.Sr.sl at h1 h2 ⊢
        rw [← HRk.o.1] at h2 ⊢
        exact smlab_any _ _ _ _ _ x.l p.w h1 h2 HRk.o.2.1)
      have C2 := hd (show ∀ p : BelW wr, Calls Tryz.prog 89 #[x.sp, y.sp] p.w fun e w' => e = .returned (.bool true) ∧ Below p.w.heap.size p.w w' from fun p =>
        smpts_any x.pA y.pA x.pc y.pc x.ps y.ps p.w (HF.o.1.below (HW.o.trans (p.h.mono HW.o.size))) (HF.o.2.below (HW.o.trans (p.h.mono HW.o.size))) HRk.o.2.2.1 HRk.o.2.2.2.2 HRk.o.2.2.2.1)
      unfold RS.Sr.sl at c0 d0 C1
      unfold RS.Sr.sp at c1 d1 C2
      have g0 := fun p : BelW wr => p.cell c0
      have g1 := fun p : BelW wr => p.cell c1
      have g2 := fun p : BelW wr => p.cell d0
      have g3 := fun p : BelW wr => p.cell d1
      clear c0 c1 d0 d1
      go_wp2_with fail
      refine wp_region_below (by kernel_rfl) (by kernel_rfl) ?_

      repeat (go_big_quiet_step (first | (go_at_call 88; exact Calls.below_of (C1.o _)) | (go_at_call 89; exact Calls.below_of (C2.o _))))
      refine wpQuiet_nil ?_
      rintro _ ⟨⟨w2, hb2⟩, rfl⟩
      have HB2 := hd (bel HW.o hb2)
      clear g0 g1 g2 g3 hb2
      go_wp2
      go_roundw
      case rel => exact ⟨k + 1, by omega, by go_num, HB2⟩
      case measure => simp [intOf]; omega
    · go_wp2
      go_ret
      exact ⟨rfl, HW.o⟩
set_option maxRecDepth 100000 in
set_option maxHeartbeats 4000000 in
theorem smres_any (ty T : Int) (v v' : Nat) (tx : ByteArray) (A A' B B' : Option Addr) (n n' m m' a a' b b' : Nat) (hv : v < 18446744073709551616) (hv' : v' < 18446744073709551616) (hs : FO.same v v' = true) (w : World)
    (hV : ∀ W, Below w.heap.size w W → Calls Tryz.prog 52 #[.slice A n a, .slice A' n' a'] W fun e w' => e = .returned (.bool true) ∧ Below W.heap.size W w')
    (hM : ∀ W, Below w.heap.size w W → Calls Tryz.prog 53 #[.slice B m b, .slice B' m' b'] W fun e w' => e = .returned (.bool true) ∧ Below W.heap.size W w') :
    Calls Tryz.prog 14 #[.agg #[.int .i64 ty, .int .i64 T, .float .f64 v, .string tx, .slice A n a, .slice B m b], .agg #[.int .i64 ty, .int .i64 T, .float .f64 v', .string tx, .slice A' n' a', .slice B' m' b']] w fun e w' => e = .returned (.bool true) ∧ Below w.heap.size w w' := by
  obtain ⟨W, hW⟩ : ∃ W, W = (w.alloc (.cells #[.int .i64 ty, .int .i64 T, .float .f64 v, .string tx, .slice A n a, .slice B m b] 26)).alloc (.cells #[.int .i64 ty, .int .i64 T, .float .f64 v', .string tx, .slice A' n' a', .slice B' m' b'] 26) := ⟨_, rfl⟩
  have HB := hd (show Below w.heap.size w W by rw [hW]; exact ((Below.refl _ _).alloc (Nat.le_refl _) _).alloc (by simp) _)
  have HK1 : Hd (Bk W w.heap.size 26 [.int .i64 ty, .int .i64 T, .float .f64 v, .string tx, .slice A n a, .slice B m b]) := hd (by rw [hW]; exact (show Bk (w.alloc (.cells #[.int .i64 ty, .int .i64 T, .float .f64 v, .string tx, .slice A n a, .slice B m b] 26)) w.heap.size 26 [.int .i64 ty, .int .i64 T, .float .f64 v, .string tx, .slice A n a, .slice B m b] from heap_alloc_new _ _).below ((Below.refl _ _).alloc (Nat.le_refl _) _))
  have HK2 : Hd (Bk W (w.heap.size + 1) 26 [.int .i64 ty, .int .i64 T, .float .f64 v', .string tx, .slice A' n' a', .slice B' m' b']) := hd (by rw [hW]; exact heap_alloc2_new _ _ _)
  have HSM := hd (fun W => (by have h := refsame_any v v' W hv hv'; rw [hs] at h; exact h : Calls Tryz.prog 51 #[.float .f64 v, .float .f64 v'] W fun e w' => e = .returned (.bool true) ∧ W = w'))
  have HV := hd hV
  have HM := hd hM
  subst hW
  have ht : (tx.toList == tx.toList) = true := by simp
  clear hV hM hv hv' hs
  go_enter Tryz.func14, Tryz.ntmps14
  go_wp2_with (first
    | (go_at_call 51; refine (HSM.o _).mono ?_; rintro e w1 ⟨rfl, rfl⟩; have a4 := HK1.o.cell 4 (by simp); have b4 := HK2.o.cell 4 (by simp); simp only [List.getElem_cons_succ, List.getElem_cons_zero] at a4 b4)
    | (go_at_call 52; refine (HV.o _ HB.o).mono ?_; rintro e w2 ⟨rfl, hb2⟩; have HB2 := hd (bel HB.o hb2); have a5 := (HK1.o.below hb2).cell 5 (by simp); have b5 := (HK2.o.below hb2).cell 5 (by simp); simp only [List.getElem_cons_succ, List.getElem_cons_zero] at a5 b5; clear hb2)
    | (go_at_call 53; refine (HM.o _ HB2.o).mono ?_; rintro e w3 ⟨rfl, hb3⟩; have HB3 := hd (bel HB2.o hb3); clear hb3))
  go_ret
  exact ⟨rfl, HB3.o⟩
end Go.Proofs.YteckfdohgiddgaaGreatDoor
namespace Go.Proofs.YteckfdohgiddgaaGreatDoor
open Go.RowKit
set_option linter.unusedVariables false
set_option linter.unusedSimpArgs false
open RJ
def RJ.tm (t : Int) : Prop := -62167219200000 ≤ t ∧ t ≤ 253402300799999
def RJ.tL (l : List Lb) : Prop := ∀ x ∈ l, U.valid x.1 = true ∧ U.valid x.2 = true
/-- a bool is answered; true says Q -/
def RJ.PA (e : Ending) (Q : Prop) : Prop := ∃ b, e = .returned (.bool b) ∧ (b = true → Q)
/-- what plain says of a result -/
structure RJ.Pln (r : RS.Res) : Prop where
  ty : 1 ≤ r.ty ∧ r.ty ≤ 4
  t : RJ.tm r.t
  tx : U.valid r.tx = true
  E : ∀ x ∈ r.E, RJ.tL x.l
  S : ∀ x ∈ r.S, RJ.tL x.l ∧ ∀ p ∈ x.ps, RJ.tm p.t
def RJ.tmB (t : Int) : Bool := decide (-62167219200000 ≤ t ∧ t ≤ 253402300799999)
theorem RJ.tmB_iff (t : Int) : RJ.tmB t = true ↔ RJ.tm t := by unfold RJ.tmB RJ.tm; rw [decide_eq_true_eq]
theorem isTime_any (t : Int) (w : World) : Calls Tryz.prog 32 #[.int .i64 t] w fun e w' => e = .returned (.bool (RJ.tmB t)) ∧ w = w' := by
  by_cases h1 : -62167219200000 ≤ t
  · by_cases h2 : t ≤ 253402300799999
    · have G : Hd (RJ.tmB t = true) := hd (by unfold RJ.tmB; simp [h1, h2])
      rw [G.o]
      go_enter Tryz.func32, Tryz.ntmps32
      go_wp2
      go_ret
      exact ⟨rfl, rfl⟩
    · have G : Hd (RJ.tmB t = false) := hd (by unfold RJ.tmB; simp [h2])
      rw [G.o]
      go_enter Tryz.func32, Tryz.ntmps32
      go_wp2
      go_ret
      exact ⟨rfl, rfl⟩
  · have G : Hd (RJ.tmB t = false) := hd (by unfold RJ.tmB; simp [h1])
    rw [G.o]
    go_enter Tryz.func32, Tryz.ntmps32
    go_wp2
    go_ret
    exact ⟨rfl, rfl⟩
set_option maxHeartbeats 4000000 in
theorem texts_any (A : Option Addr) (n c : Nat) (l : List Lb) (w : World) (hl : IsL 2 w (.slice A n c) n (cellsL l)) (hs : RS.SmL' l) (hn : n ≤ 1125899906842624) :
    Calls Tryz.prog 34 #[.slice A n c] w fun e w' => RJ.PA e (RJ.tL l) ∧ Below w.heap.size w w' := by
  have HLN := hd (IsLb.len hl)
  have HI := hd hl
  have HS := hd hs
  clear hl hs
  go_enter Tryz.func34, Tryz.ntmps34
  go_wp2
  go_loopw [7] (fun x wr => ∃ k : Nat, k ≤ n ∧ x = .int .i64 k ∧ Hd (Below w.heap.size w wr) ∧ Hd (∀ x ∈ l.take k, U.valid x.1 = true ∧ U.valid x.2 = true)) (fun x _ => n - (intOf x).toNat)
  case atStart => exact ⟨0, Nat.zero_le _, rfl, hd (Below.refl _ _), hd (by simp)⟩
  case round =>
    obtain ⟨k, hk, rfl, HB, HV⟩ := hrel
    by_cases hlt : k < n
    · have hkl : k < l.length := by rw [HLN.o]; exact hlt
      have hki : (k : Int) < (n : Int) := by omega
      obtain ⟨b, off, rfl, hbl, c1, c2⟩ := IsLb.at_ HI.o k hkl
      have d1 := (HB.o.cell (p := ⟨b, off + k * 2, none⟩) hbl).trans c1
      have d2 := (HB.o.cell (p := ⟨b, off + k * 2 + 1, none⟩) hbl).trans c2
      obtain ⟨s1, s2⟩ := HS.o _ (List.getElem_mem hkl)
      have HT := hd (List.take_succ_eq_append_getElem hkl)
      have hz := HB.o.size
      clear c1 c2
      generalize l[k]'hkl = x at *
      obtain ⟨x1, x2⟩ := x
      simp only at d1 d2 s1 s2
      cases h1 : U.valid x1 with
      | false =>
        have H1 := hd h1
        clear h1
        go_wp2_with (go_at_call 33; refine (refValid_any x1 _ (by omega)).mono ?_; rintro e w8 ⟨rfl, hb8⟩; rw [H1.o]; have HB8 := hd (bel (HB.o.alloc hz (.cells #[.string x1, .string x2] 57)) hb8); clear hb8)
        go_ret
        exact ⟨⟨false, rfl, fun h => by cases h⟩, HB8.o⟩
      | true =>
        have H1 := hd h1
        clear h1
        cases h2 : U.valid x2 with
        | false =>
          have H2 := hd h2
          clear h2
          go_wp2_with (first
            | (go_at_call 33; (with_reducible refine (refValid_any x1 _ (by omega)).mono ?_); rintro e w8 ⟨rfl, hb8⟩; rw [H1.o]; have HB8 := hd (bel (HB.o.alloc hz (.cells #[.string x1, .string x2] 57)) hb8); have HK := hd ((show Bk (wr.alloc (.cells #[.string x1, .string x2] 57)) wr.heap.size 57 [.string x1, .string x2] from heap_alloc_new _ _).below hb8); have k1 := HK.o.cell 1 (by simp); simp only [List.getElem_cons_succ, List.getElem_cons_zero] at k1; clear hb8)
            | (go_at_call 33; (with_reducible refine (refValid_any x2 _ (by omega)).mono ?_); rintro e w9 ⟨rfl, hb9⟩; rw [H2.o]; have HB9 := hd (bel HB8.o hb9); clear hb9))
          go_ret
          exact ⟨⟨false, rfl, fun h => by cases h⟩, HB9.o⟩
        | true =>
          have H2 := hd h2
          clear h2
          go_wp2_with (first
            | (go_at_call 33; (with_reducible refine (refValid_any x1 _ (by omega)).mono ?_); rintro e w8 ⟨rfl, hb8⟩; rw [H1.o]; have HB8 := hd (bel (HB.o.alloc hz (.cells #[.string x1, .string x2] 57)) hb8); have HK := hd ((show Bk (wr.alloc (.cells #[.string x1, .string x2] 57)) wr.heap.size 57 [.string x1, .string x2] from heap_alloc_new _ _).below hb8); have k1 := HK.o.cell 1 (by simp); simp only [List.getElem_cons_succ, List.getElem_cons_zero] at k1; clear hb8)
            | (go_at_call 33; (with_reducible refine (refValid_any x2 _ (by omega)).mono ?_); rintro e w9 ⟨rfl, hb9⟩; rw [H2.o]; have HB9 := hd (bel HB8.o hb9); clear hb9))
          go_roundw
          case rel => exact ⟨k + 1, by omega, by go_num, HB9, hd (fun y hy => by
            rw [HT.o] at hy
            rcases List.mem_append.1 hy with hy | hy
            · exact HV.o y hy
            · rw [List.mem_singleton] at hy; subst hy; exact ⟨H1.o, H2.o⟩)⟩
          case measure => simp [intOf]; omega
    · have G := hd (show RJ.tL l by
        have h := HV.o
        rw [List.take_of_length_le (by rw [HLN.o]; omega)] at h
        exact h)
      go_wp2
      go_ret
      exact ⟨⟨true, rfl, fun _ => G.o⟩, HB.o⟩
set_option maxRecDepth 100000 in
set_option maxHeartbeats 8000000 in
theorem rjplain_any (r : RS.Res) (w : World) (hk : r.Ok w) :
    Calls Tryz.prog 11 #[r.val] w fun e w' => RJ.PA e (RJ.Pln r) ∧ Below w.heap.size w w' := by
  have hnE := hk.nE
  have hnS := hk.nS
  have HWS := hd hk.wS
  have HWE := hd hk.wE
  have HIE := hd hk.E
  have HIS := hd hk.S
  have htx := hk.tx
  obtain ⟨ty, t, v, tx, eA, ec, E, sA, sc, S⟩ := r
  have HPL := hd (fun (a : 1 ≤ ty ∧ ty ≤ 4) (b : RJ.tm t) (c : U.valid tx = true) (d : ∀ x ∈ E, RJ.tL x.l) (e : ∀ x ∈ S, RJ.tL x.l ∧ ∀ p ∈ x.ps, RJ.tm p.t) => (⟨a, b, c, d, e⟩ : RJ.Pln ⟨ty, t, v, tx, eA, ec, E, sA, sc, S⟩))
  clear hk
  simp only at hnE hnS HWS HWE HIE HIS htx
  obtain ⟨W, hW⟩ : ∃ W, W = w.alloc (.cells #[.int .i64 ty, .int .i64 t, .float .f64 v, .string tx, .slice eA E.length ec, .slice sA S.length sc] 26) := ⟨_, rfl⟩
  have HB := hd (show Below w.heap.size w W by rw [hW]; exact (Below.refl _ _).alloc (Nat.le_refl _) _)
  have HKR : Hd (Bk W w.heap.size 26 [.int .i64 ty, .int .i64 t, .float .f64 v, .string tx, .slice eA E.length ec, .slice sA S.length sc]) := hd (by rw [hW]; exact heap_alloc_new _ _)
  unfold RS.Res.val RS.Res.cells
  obtain ⟨ne, hne⟩ : ∃ ne, ne = E.length := ⟨_, rfl⟩
  obtain ⟨ns, hns⟩ : ∃ ns, ns = S.length := ⟨_, rfl⟩
  have HNE := hd hne
  have HNS := hd hns
  rw [← hne, ← hns] at HKR hW
  rw [← hne] at hnE
  rw [← hns] at hnS
  simp only [← hne, ← hns]
  clear hne hns
  by_cases h1 : ty < 1
  · subst hW
    go_enter Tryz.func11, Tryz.ntmps11
    go_wp2
    go_ret
    exact ⟨⟨false, rfl, fun h => by cases h⟩, HB.o⟩
  by_cases h4 : 4 < ty
  · subst hW
    go_enter Tryz.func11, Tryz.ntmps11
    go_wp2
    go_ret
    exact ⟨⟨false, rfl, fun h => by cases h⟩, HB.o⟩
  have HBT := hd (fun W => isTime_any t W)
  have HTB := hd (RJ.tmB_iff t)
  generalize RJ.tmB t = bt at HBT HTB
  cases bt with
  | false =>
    subst hW
    go_enter Tryz.func11, Tryz.ntmps11
    go_wp2_with (go_at_call 32; refine (HBT.o _).mono ?_; rintro e w1 ⟨rfl, rfl⟩)
    go_ret
    exact ⟨⟨false, rfl, fun h => by cases h⟩, HB.o⟩
  | true =>
    have HTM := hd (HTB.o.1 (by trivial))
    cases hv : U.valid tx with
    | false =>
      have HV := hd hv
      clear hv
      subst hW
      go_enter Tryz.func11, Tryz.ntmps11
      go_wp2_with (first
        | (go_at_call 32; refine (HBT.o _).mono ?_; rintro e w1 ⟨rfl, rfl⟩)
        | (go_at_call 33; refine (refValid_any tx _ (by omega)).mono ?_; rintro e w2 ⟨rfl, hb2⟩; rw [HV.o]; have HB2 := hd (bel HB.o hb2); clear hb2))
      go_ret
      exact ⟨⟨false, rfl, fun h => by cases h⟩, HB2.o⟩
    | true =>
      have HV := hd hv
      clear hv
      subst hW
      go_enter Tryz.func11, Tryz.ntmps11
      go_wp2_with (first
        | (go_at_call 32; refine (HBT.o _).mono ?_; rintro e w1 ⟨rfl, rfl⟩)
        | (go_at_call 33; refine (refValid_any tx _ (by omega)).mono ?_; rintro e w2 ⟨rfl, hb2⟩; rw [HV.o]; have HB2 := hd (bel HB.o hb2); have HKR2 := hd (HKR.o.below hb2); have a4 := HKR2.o.cell 4 (by simp); simp only [List.getElem_cons_succ, List.getElem_cons_zero] at a4; clear hb2))
      go_loopw [32] (fun x wr => ∃ k : Nat, k ≤ ne ∧ x = .int .i64 k ∧ Hd (Below w2.heap.size w2 wr) ∧ Hd (∀ x ∈ E.take k, RJ.tL x.l)) (fun x _ => ne - (intOf x).toNat)
      case atStart => exact ⟨0, Nat.zero_le _, rfl, hd (Below.refl _ _), hd (by simp)⟩
      case round =>
        obtain ⟨k, hk, rfl, HL, HT⟩ := hrel
        have HBW := hd (bel HB2.o HL.o)
        by_cases hlt : k < ne
        · have hkE : k < E.length := by rw [← HNE.o]; exact hlt
          have hki : (k : Int) < (ne : Int) := by omega
          obtain ⟨b1, o1, rfl, hb1, c0, c1, hI, hS, hf⟩ := HIE.o.at_ k hkE
          have d0 := (HBW.o.cell (p := ⟨b1, o1 + k * 2, none⟩) hb1).trans c0
          have d1 := (HBW.o.cell (p := ⟨b1, o1 + k * 2 + 1, none⟩) hb1).trans c1
          have HTk := hd (List.take_succ_eq_append_getElem hkE)
          have hlx : E[k].l.length ≤ 1048576 := by have := RS.mem_wt RS.gE E _ (List.getElem_mem hkE); have := HWE.o; unfold RS.gE at *; omega
          generalize E[k]'hkE = x at *
          obtain ⟨xA, xc, xl, xf⟩ := x
          unfold RS.El.sl at d0 hI
          simp only at d0 d1 hI hS hf hlx
          have HTX := hd (fun W (hb : Below w.heap.size w W) => texts_any xA xl.length xc xl W (hI.below hb) hS (by omega))
          have HA := hd (HBW.o.alloc HBW.o.size (.cells #[.slice xA xl.length xc, .float .f64 xf] 54))
          clear c0 c1 hI hS hf
          go_wp2_with (go_at_call 34; refine (HTX.o _ HA.o).mono ?_; rintro e w3 ⟨⟨b, rfl, hb⟩, hb3⟩; have HBb := hd hb; have HB3 := hd (bel HA.o hb3); have HL3 := hd (bel (HL.o.alloc HL.o.size (.cells #[.slice xA xl.length xc, .float .f64 xf] 54)) hb3); clear hb hb3; revert HBb)
          intro HBb
          cases b with
          | false =>
            go_wp2
            go_ret
            exact ⟨⟨false, rfl, fun h => by cases h⟩, HB3.o⟩
          | true =>
            go_wp2
            go_roundw
            case rel => exact ⟨k + 1, by omega, by go_num, HL3, hd (fun y hy => by
              rw [HTk.o] at hy
              rcases List.mem_append.1 hy with hy | hy
              · exact HT.o y hy
              · rw [List.mem_singleton] at hy; subst hy; exact HBb.o (by trivial))⟩
            case measure => simp [intOf]; omega
        · have HTE := hd (show ∀ x ∈ E, RJ.tL x.l by
            have h := HT.o
            rw [List.take_of_length_le (by rw [← HNE.o]; omega)] at h
            exact h)
          have a5 := (HKR2.o.below HL.o).cell 5 (by simp)
          simp only [List.getElem_cons_succ, List.getElem_cons_zero] at a5
          clear HT
          obtain ⟨wv, rfl⟩ : ∃ wv : World, wv = wr := ⟨_, rfl⟩
          go_wp2
          go_loopw [44] (fun x wr => ∃ k : Nat, k ≤ ns ∧ x = .int .i64 k ∧ Hd (Below wv.heap.size wv wr) ∧ Hd (∀ x ∈ S.take k, RJ.tL x.l ∧ ∀ p ∈ x.ps, RJ.tm p.t)) (fun x _ => ns - (intOf x).toNat)
          case atStart => exact ⟨0, Nat.zero_le _, rfl, hd (Below.refl _ _), hd (by simp)⟩
          case round =>
            obtain ⟨k2, hk2, rfl, HM, HT⟩ := hrel
            have HBM := hd (bel HBW.o HM.o)
            by_cases hlt2 : k2 < ns
            · have hkS : k2 < S.length := by rw [← HNS.o]; exact hlt2
              have hki : (k2 : Int) < (ns : Int) := by omega
              obtain ⟨b1, o1, rfl, hb1, c0, c1, hI, hS, hP⟩ := HIS.o.at_ k2 hkS
              have d0 := (HBM.o.cell (p := ⟨b1, o1 + k2 * 2, none⟩) hb1).trans c0
              have d1 := (HBM.o.cell (p := ⟨b1, o1 + k2 * 2 + 1, none⟩) hb1).trans c1
              have HTk := hd (List.take_succ_eq_append_getElem hkS)
              have hwx := RS.mem_wt RS.gS S _ (List.getElem_mem hkS)
              have hlx : S[k2].l.length ≤ 1048576 ∧ S[k2].ps.length ≤ 1048576 := by have := HWS.o; unfold RS.gS at *; omega
              clear hwx
              generalize S[k2]'hkS = x at *
              obtain ⟨xA, xc, xl, pA, pc, xp⟩ := x
              unfold RS.Sr.sl at d0 hI
              unfold RS.Sr.sp at d1
              simp only at d0 d1 hI hS hP hlx
              have HPP := hd hP
              have HTX := hd (fun W (hb : Below w.heap.size w W) => texts_any xA xl.length xc xl W (hI.below hb) hS (by omega))
              have HA := hd (HBM.o.alloc HBM.o.size (.cells #[.slice xA xl.length xc, .slice pA xp.length pc] 72))
              have HK6 : Hd (Bk (wr.alloc (.cells #[.slice xA xl.length xc, .slice pA xp.length pc] 72)) wr.heap.size 72 [.slice xA xl.length xc, .slice pA xp.length pc]) := hd (heap_alloc_new _ _)
              have hpl := hlx.2
              clear c0 c1 hI hS hP hlx
              go_wp2_with (go_at_call 34; refine (HTX.o _ HA.o).mono ?_; rintro e w3 ⟨⟨b, rfl, hb⟩, hb3⟩; have HBb := hd hb; have HB3 := hd (bel HA.o hb3); have HL3 := hd (bel (HM.o.alloc HM.o.size (.cells #[.slice xA xl.length xc, .slice pA xp.length pc] 72)) hb3); have HK7 := hd (HK6.o.below hb3); clear hb hb3; revert HBb)
              intro HBb
              cases b with
              | false =>
                go_wp2
                go_ret
                exact ⟨⟨false, rfl, fun h => by cases h⟩, HB3.o⟩
              | true =>
                have k1 := HK7.o.cell 1 (by simp)
                simp only [List.getElem_cons_succ, List.getElem_cons_zero] at k1
                obtain ⟨np, hnp⟩ : ∃ np, np = xp.length := ⟨_, rfl⟩
                have HNP := hd hnp
                rw [← hnp] at k1 hpl
                clear hnp
                go_wp2
                go_loopw [55] (fun x wr => ∃ k : Nat, k ≤ np ∧ x = .int .i64 k ∧ Hd (Below w3.heap.size w3 wr) ∧ Hd (∀ p ∈ xp.take k, RJ.tm p.t)) (fun x _ => np - (intOf x).toNat)
                case atStart => exact ⟨0, Nat.zero_le _, rfl, hd (Below.refl _ _), hd (by simp)⟩
                case round =>
                  obtain ⟨k3, hk3, rfl, HN, HT3⟩ := hrel
                  have HBN := hd (bel HB3.o HN.o)
                  by_cases hlt3 : k3 < np
                  · have hkP : k3 < xp.length := by rw [← HNP.o]; exact hlt3
                    have hki3 : (k3 : Int) < (np : Int) := by omega
                    obtain ⟨b3, o3, rfl, hb3, e0, e1, e2, hok⟩ := HPP.o.at_ k3 hkP
                    have f0 := (HBN.o.cell (p := ⟨b3, o3 + k3 * 3, none⟩) hb3).trans e0
                    have f1 := (HBN.o.cell (p := ⟨b3, o3 + k3 * 3 + 1, none⟩) hb3).trans e1
                    have f2 := (HBN.o.cell (p := ⟨b3, o3 + k3 * 3 + 2, none⟩) hb3).trans e2
                    have HT4 := hd (List.take_succ_eq_append_getElem hkP)
                    clear e0 e1 e2 hok
                    generalize xp[k3]'hkP = q at *
                    obtain ⟨qt, qf, qs⟩ := q
                    simp only at f0 f1 f2
                    have HI4 := hd (fun W => isTime_any qt W)
                    have HB4 := hd (RJ.tmB_iff qt)
                    have HA4 := hd (HBN.o.alloc HBN.o.size (.cells #[.int .i64 qt, .float .f64 qf, .bool qs] 77))
                    have HN4 := hd (HN.o.alloc HN.o.size (.cells #[.int .i64 qt, .float .f64 qf, .bool qs] 77))
                    generalize RJ.tmB qt = bq at HI4 HB4
                    cases bq with
                    | false =>
                      go_wp2_with (go_at_call 32; refine (HI4.o _).mono ?_; rintro e w9 ⟨rfl, rfl⟩)
                      go_ret
                      exact ⟨⟨false, rfl, fun h => by cases h⟩, HA4.o⟩
                    | true =>
                      go_wp2_with (go_at_call 32; refine (HI4.o _).mono ?_; rintro e w9 ⟨rfl, rfl⟩)
                      go_roundw
                      case rel => exact ⟨k3 + 1, by omega, by go_num, HN4, hd (fun y hy => by
                        rw [HT4.o] at hy
                        rcases List.mem_append.1 hy with hy | hy
                        · exact HT3.o y hy
                        · rw [List.mem_singleton] at hy; subst hy; exact HB4.o.1 (by trivial))⟩
                      case measure => simp [intOf]; omega
                  · have HTP := hd (show ∀ p ∈ xp, RJ.tm p.t by
                      have h := HT3.o
                      rw [List.take_of_length_le (by rw [← HNP.o]; omega)] at h
                      exact h)
                    have HLE := hd (bel HL3.o HN.o)
                    go_wp2
                    go_roundw
                    case rel => exact ⟨k2 + 1, by omega, by go_num, HLE, hd (fun y hy => by
                      rw [HTk.o] at hy
                      rcases List.mem_append.1 hy with hy | hy
                      · exact HT.o y hy
                      · rw [List.mem_singleton] at hy; subst hy; exact ⟨HBb.o (by trivial), HTP.o⟩)⟩
                    case measure => simp [intOf]; omega
            · have HTS := hd (show ∀ x ∈ S, RJ.tL x.l ∧ ∀ p ∈ x.ps, RJ.tm p.t by
                have h := HT.o
                rw [List.take_of_length_le (by rw [← HNS.o]; omega)] at h
                exact h)
              go_wp2
              go_ret
              exact ⟨⟨true, rfl, fun _ => HPL.o ⟨by omega, by omega⟩ HTM.o HV.o HTE.o HTS.o⟩, HBM.o⟩
end Go.Proofs.YteckfdohgiddgaaGreatDoor
namespace Go.Proofs.YteckfdohgiddgaaGreatDoor
open Go.RowKit
set_option linter.unusedVariables false
set_option linter.unusedSimpArgs false
open RJ
namespace RJ
theorem res6 {fn : Func} {q : Tmp} {W : World} {g : Nat} {a b c d e f : Value} (hf : fn.results = #[.cell q 26]) (tmps : Array Value) (hp : tmps.getD q undef = .pointer (some ⟨g, 0, none⟩)) (h : Bk W g 26 [a, b, c, d, e, f]) :
    (results fn tmps).run Tryz.prog W = .ok (.agg #[a, b, c, d, e, f]) W :=
  results_cell_row hf tmps W g 26 #[a, b, c, d, e, f] (0, 0) _ hp h Tryz.underlying26 rfl (by kernel_rfl)
theorem bk_mid (w : World) (X Y : Obj) (e : TypeId) (L : List Value) : Bk (((w.alloc X).alloc (.cells L.toArray e)).alloc Y) (w.heap.size + 1) e L := by
  have h : Bk ((w.alloc X).alloc (.cells L.toArray e)) (w.heap.size + 1) e L := heap_alloc2_new _ _ _
  exact h.below ((Below.refl _ _).alloc (Nat.le_refl _) _)
theorem bel3 (w : World) (X Y Z : Obj) : Below w.heap.size w (((w.alloc X).alloc Y).alloc Z) := (((Below.refl _ _).alloc (Nat.le_refl _) _).alloc (by simp) _).alloc (by simp; omega) _
end RJ
set_option maxRecDepth 100000 in
set_option maxHeartbeats 4000000 in
theorem used1_any (t : Int) (v : Nat) (tx : ByteArray) (eA sA : Option Addr) (ne ec ns sc : Nat) (w : World) :
    Calls Tryz.prog 15 #[.agg #[.int .i64 1, .int .i64 t, .float .f64 v, .string tx, .slice eA ne ec, .slice sA ns sc]] w fun e w' => e = .returned (.agg #[.int .i64 1, .int .i64 t, .float .f64 v, .string ⟨#[]⟩, .slice none 0 0, .slice none 0 0]) ∧ Below w.heap.size w w' := by
  go_enter Tryz.func15, Tryz.ntmps15
  go_wp2
  refine bodyPost_ret (RJ.res6 rfl _ rfl (RJ.bk_mid w _ _ _ [.int .i64 1, .int .i64 t, .float .f64 v, .string ⟨#[]⟩, .slice none 0 0, .slice none 0 0])) rfl ?_
  exact ⟨rfl, RJ.bel3 _ _ _ _⟩
set_option maxRecDepth 100000 in
set_option maxHeartbeats 4000000 in
theorem used2_any (t : Int) (v : Nat) (tx : ByteArray) (eA sA : Option Addr) (ne ec ns sc : Nat) (w : World) :
    Calls Tryz.prog 15 #[.agg #[.int .i64 2, .int .i64 t, .float .f64 v, .string tx, .slice eA ne ec, .slice sA ns sc]] w fun e w' => e = .returned (.agg #[.int .i64 2, .int .i64 t, .float .f64 0, .string tx, .slice none 0 0, .slice none 0 0]) ∧ Below w.heap.size w w' := by
  go_enter Tryz.func15, Tryz.ntmps15
  go_wp2
  refine bodyPost_ret (RJ.res6 rfl _ rfl (RJ.bk_mid w _ _ _ [.int .i64 2, .int .i64 t, .float .f64 0, .string tx, .slice none 0 0, .slice none 0 0])) rfl ?_
  exact ⟨rfl, RJ.bel3 _ _ _ _⟩
set_option maxRecDepth 100000 in
set_option maxHeartbeats 4000000 in
theorem used3_any (t : Int) (v : Nat) (tx : ByteArray) (eA sA : Option Addr) (ne ec ns sc : Nat) (w : World) (h0 : 0 < ne) :
    Calls Tryz.prog 15 #[.agg #[.int .i64 3, .int .i64 t, .float .f64 v, .string tx, .slice eA ne ec, .slice sA ns sc]] w fun e w' => e = .returned (.agg #[.int .i64 3, .int .i64 t, .float .f64 0, .string ⟨#[]⟩, .slice eA ne ec, .slice none 0 0]) ∧ Below w.heap.size w w' := by
  have h1 : (0 : Int) < (ne : Int) := by omega
  go_enter Tryz.func15, Tryz.ntmps15
  go_wp2
  refine bodyPost_ret (RJ.res6 rfl _ rfl (RJ.bk_mid w _ _ _ [.int .i64 3, .int .i64 t, .float .f64 0, .string ⟨#[]⟩, .slice eA ne ec, .slice none 0 0])) rfl ?_
  exact ⟨rfl, RJ.bel3 _ _ _ _⟩
set_option maxRecDepth 100000 in
set_option maxHeartbeats 4000000 in
theorem used3z_any (t : Int) (v : Nat) (tx : ByteArray) (eA sA : Option Addr) (ec ns sc : Nat) (w : World) :
    Calls Tryz.prog 15 #[.agg #[.int .i64 3, .int .i64 t, .float .f64 v, .string tx, .slice eA 0 ec, .slice sA ns sc]] w fun e w' => e = .returned (.agg #[.int .i64 3, .int .i64 0, .float .f64 0, .string ⟨#[]⟩, .slice eA 0 ec, .slice none 0 0]) ∧ Below w.heap.size w w' := by
  go_enter Tryz.func15, Tryz.ntmps15
  go_wp2
  refine bodyPost_ret (RJ.res6 rfl _ rfl (RJ.bk_mid w _ _ _ [.int .i64 3, .int .i64 0, .float .f64 0, .string ⟨#[]⟩, .slice eA 0 ec, .slice none 0 0])) rfl ?_
  exact ⟨rfl, RJ.bel3 _ _ _ _⟩
namespace RJ
/-- what used holds: the result's cell, the answer's, out's -/
structure USt (W wr : World) (jc : List Value) (ty T : Int) (V M : Value) : Prop where
  b : Below W.heap.size W wr
  j : Bk wr W.heap.size 26 jc
  r : Bk wr (W.heap.size + 1) 26 (cR 0 0 0 ⟨#[]⟩ (.slice none 0 0) (.slice none 0 0))
  o : Bk wr (W.heap.size + 1 + 1) 26 (cR ty T 0 ⟨#[]⟩ V M)
theorem USt.below {W wr wr' : World} {jc : List Value} {ty T : Int} {V M : Value} (h : USt W wr jc ty T V M) (hb : Below wr.heap.size wr wr') : USt W wr' jc ty T V M := ⟨bel h.b hb, h.j.below hb, h.r.below hb, h.o.below hb⟩
theorem USt.size {W wr : World} {jc : List Value} {ty T : Int} {V M : Value} (h : USt W wr jc ty T V M) : W.heap.size + 3 ≤ wr.heap.size := by have := h.o.lt; omega
theorem USt.grow {W wr wr' : World} {jc : List Value} {ty T : Int} {V M : Value} (h : USt W wr jc ty T V M) (hb : Below (W.heap.size + 3) wr wr') : USt W wr' jc ty T V M :=
  ⟨h.b.trans (hb.mono (by omega)), (hb.block _ (by omega)).trans h.j, (hb.block _ (by omega)).trans h.r, (hb.block _ (by omega)).trans h.o⟩
theorem USt.set (W wr : World) {jc : List Value} {ty T : Int} {V M : Value} (h : USt W wr jc ty T V M) (k : Nat) (u : Value) (ty' T' : Int) (V' M' : Value) (e : (cR ty T 0 ⟨#[]⟩ V M).set k u = cR ty' T' 0 ⟨#[]⟩ V' M') : USt W (wr.setCell ⟨W.heap.size + 1 + 1, k, none⟩ u) jc ty' T' V' M' :=
  ⟨h.b.setCell (p := ⟨W.heap.size + 1 + 1, k, none⟩) (by show _ ≤ W.heap.size + 1 + 1; omega) _, h.j.set_far (by show _ ≠ W.heap.size + 1 + 1; omega) _, h.r.set_far (by show _ ≠ W.heap.size + 1 + 1; omega) _, by rw [← e]; exact h.o.set k u⟩
theorem USt.ent (w : World) (t : Int) (v : Nat) (tx : ByteArray) (eA sA : Option Addr) (ne ec ns sc : Nat) : USt w (((w.alloc (.cells #[.int .i64 4, .int .i64 t, .float .f64 v, .string tx, .slice eA ne ec, .slice sA ns sc] 26)).alloc (.cells #[.int .i64 0, .int .i64 0, .float .f64 0, .string ⟨#[]⟩, .slice none 0 0, .slice none 0 0] 26)).alloc (.cells #[.int .i64 4, .int .i64 0, .float .f64 0, .string ⟨#[]⟩, .slice none 0 0, .slice none 0 0] 26)) [.int .i64 4, .int .i64 t, .float .f64 v, .string tx, .slice eA ne ec, .slice sA ns sc] 4 0 (.slice none 0 0) (.slice none 0 0) := by
  refine ⟨bel3 _ _ _ _, ?_, ?_, ?_⟩
  · have h : Bk (w.alloc (.cells #[.int .i64 4, .int .i64 t, .float .f64 v, .string tx, .slice eA ne ec, .slice sA ns sc] 26)) w.heap.size 26 [.int .i64 4, .int .i64 t, .float .f64 v, .string tx, .slice eA ne ec, .slice sA ns sc] := heap_alloc_new _ _
    exact (h.below ((Below.refl _ _).alloc (Nat.le_refl _) _)).below ((Below.refl _ _).alloc (Nat.le_refl _) _)
  · exact bk_mid w _ _ _ (cR 0 0 0 ⟨#[]⟩ (.slice none 0 0) (.slice none 0 0))
  · have h := heap_alloc2_new (w.alloc (.cells #[.int .i64 4, .int .i64 t, .float .f64 v, .string tx, .slice eA ne ec, .slice sA ns sc] 26)) (.cells #[.int .i64 0, .int .i64 0, .float .f64 0, .string ⟨#[]⟩, .slice none 0 0, .slice none 0 0] 26) (.cells #[.int .i64 4, .int .i64 0, .float .f64 0, .string ⟨#[]⟩, .slice none 0 0, .slice none 0 0] 26)
    rw [show (w.alloc (.cells #[.int .i64 4, .int .i64 t, .float .f64 v, .string tx, .slice eA ne ec, .slice sA ns sc] 26)).heap.size = w.heap.size + 1 by simp] at h
    exact h
/-- series of which the labels are the ones handed in -/
structure UK (w0 : World) (B : Nat) (W : World) (V : Value) (E : List RS.Sr) : Prop where
  own : W.ownsRow B 72 2 V E.length (cellsR E)
  lab : ∀ x ∈ E, IsL 2 w0 x.sl x.l.length (cellsL x.l)
  pts : ∀ x ∈ E, W.ownsRow B 77 3 x.sp x.ps.length (cellsP x.ps)
theorem UK.nil (w0 : World) (B : Nat) (W : World) : UK w0 B W (.slice none 0 0) [] := ⟨World.ownsRow_nil _ _ _ _, by simp, by simp⟩
theorem UK.below {w0 : World} {B : Nat} {W W' : World} {V : Value} {E : List RS.Sr} (h : UK w0 B W V E) (hb : Below W.heap.size W W') : UK w0 B W' V E := ⟨own_below h.own hb, h.lab, fun x hx => own_below (h.pts x hx) hb⟩
theorem UK.ex {w0 : World} {B r : Nat} {W W' : World} {V : Value} {E : List RS.Sr} (h : UK w0 B W V E) (hx : Ex r W W') (hr : r < B) : UK w0 B W' V E := ⟨own_ex h.own hx hr, h.lab, fun x hm => own_ex (h.pts x hm) hx hr⟩
theorem UK.push {w0 : World} {B : Nat} {W W' : World} {V V' : Value} {E : List RS.Sr} {x : RS.Sr} (h : UK w0 B W V E) (hx : IsL 2 w0 x.sl x.l.length (cellsL x.l)) (hp : W.ownsRow B 77 3 x.sp x.ps.length (cellsP x.ps)) (ho : W'.ownsRow B 72 2 V' (E.length + 1) (cellsR E ++ [x.sl, x.sp])) (hg : W.grownBy W' V.ownBlock) : UK w0 B W' V' (E ++ [x]) := by
  refine ⟨by rw [cellsR_app, List.length_append]; simpa [cellsR] using ho, fun y hy => ?_, fun y hy => ?_⟩
  · rcases List.mem_append.1 hy with hy | hy
    · exact h.lab y hy
    · rw [List.mem_singleton] at hy; subst hy; exact hx
  · have hk : ∀ y : RS.Sr, W.ownsRow B 77 3 y.sp y.ps.length (cellsP y.ps) → W'.ownsRow B 77 3 y.sp y.ps.length (cellsP y.ps) := fun y hy => own_kept hy hg (own_type_ne hy h.own (by decide))
    rcases List.mem_append.1 hy with hy | hy
    · exact hk y (h.pts y hy)
    · rw [List.mem_singleton] at hy; subst hy; exact hk _ hp
def PtU (x e : RS.Pt) : Prop := e.t = x.t ∧ e.st = false ∧ e.f = x.f
def PU (L E : List RS.Pt) : Prop := E.length = L.length ∧ ∀ i (h : i < L.length) (h' : i < E.length), PtU (L[i]'h) (E[i]'h')
def MU (L E : List RS.Sr) : Prop := E.length = L.length ∧ ∀ i (h : i < L.length) (h' : i < E.length), (E[i]'h').l = (L[i]'h).l ∧ PU (L[i]'h).ps (E[i]'h').ps
end RJ
set_option maxRecDepth 100000 in
set_option maxHeartbeats 8000000 in
theorem used4_any (t : Int) (v : Nat) (tx : ByteArray) (eA sA : Option Addr) (ne ec ns sc : Nat) (L : List RS.Sr) (w : World) (hL : RS.IsSs w sA L) (hns : ns = L.length) (hn : ns ≤ 1099511627776) (hps : ∀ x ∈ L, x.ps.length ≤ 1099511627776) :
    Calls Tryz.prog 15 #[.agg #[.int .i64 4, .int .i64 t, .float .f64 v, .string tx, .slice eA ne ec, .slice sA ns sc]] w fun e w' => (∃ VA vc E, e = .returned (.agg #[.int .i64 4, .int .i64 0, .float .f64 0, .string ⟨#[]⟩, .slice none 0 0, .slice VA E.length vc]) ∧ RJ.UK w w.heap.size w' (.slice VA E.length vc) E ∧ RJ.MU L E) ∧ Below w.heap.size w w' := by
  have HL := hd hL
  have HNS := hd hns
  have HPS := hd hps
  clear hL hns hps
  go_enter Tryz.func15, Tryz.ntmps15
  go_wp2_with fail
  have HV0 := hd (RJ.USt.ent w t v tx eA sA ne ec ns sc)
  obtain ⟨W2, hW2⟩ : ∃ W2, W2 = (((w.alloc (.cells #[.int .i64 4, .int .i64 t, .float .f64 v, .string tx, .slice eA ne ec, .slice sA ns sc] 26)).alloc (.cells #[.int .i64 0, .int .i64 0, .float .f64 0, .string ⟨#[]⟩, .slice none 0 0, .slice none 0 0] 26)).alloc (.cells #[.int .i64 4, .int .i64 0, .float .f64 0, .string ⟨#[]⟩, .slice none 0 0, .slice none 0 0] 26)) := ⟨_, rfl⟩
  rw [← hW2] at HV0 ⊢
  clear hW2
  go_loopw [47] (fun x wr => ∃ (i : Nat) (VA : Option Addr) (vc : Nat) (E : List RS.Sr), i ≤ ns ∧ x = .int .i64 i ∧ Hd (RJ.USt w wr [.int .i64 4, .int .i64 t, .float .f64 v, .string tx, .slice eA ne ec, .slice sA ns sc] 4 0 (.slice none 0 0) (.slice VA i vc)) ∧ Hd (RJ.UK w (w.heap.size + 3) wr (.slice VA i vc) E) ∧ Hd (RJ.MU (L.take i) E)) (fun x _ => ns - (intOf x).toNat)
  case atStart => exact ⟨0, none, 0, [], Nat.zero_le _, rfl, HV0, hd (RJ.UK.nil _ _ _), hd ⟨rfl, fun i h h' => by simp at h'⟩⟩
  case round =>
    obtain ⟨i, VA, vc, E, hi, rfl, HV, HE, HR⟩ := hrel
    clear HV0
    obtain ⟨wo, rfl⟩ : ∃ wo : World, wo = wr := ⟨_, rfl⟩
    have hEl : E.length = i := by have := HR.o.1; rw [List.length_take] at this; have := HNS.o; omega
    by_cases hlt : i < ns
    · have hltI : (i : Int) < (ns : Int) := by omega
      have hiL : i < L.length := by rw [← HNS.o]; exact hlt
      obtain ⟨b1, o1, rfl, hb1, c0, c1, hI, hS, hP⟩ := HL.o.at_ i hiL
      have d0 := (HV.o.b.cell (p := ⟨b1, o1 + i * 2, none⟩) hb1).trans c0
      have d1 := (HV.o.b.cell (p := ⟨b1, o1 + i * 2 + 1, none⟩) hb1).trans c1
      have hpn := HPS.o _ (List.getElem_mem hiL)
      obtain ⟨x, hx⟩ : ∃ x, x = L[i] := ⟨_, rfl⟩
      have HX := hd hx
      rw [← hx] at d0 d1 hI hP hpn
      obtain ⟨xA, xc, xl, pA, pc, xp⟩ := x
      unfold RS.Sr.sl at d0 hI
      unfold RS.Sr.sp at d1
      simp only at d0 d1 hI hP hpn
      have HI := hd hI
      have HP := hd hP
      have HA6 := hd ((HV.o.below ((Below.refl _ _).alloc (Nat.le_refl _) (.cells #[.slice xA xl.length xc, .slice pA xp.length pc] 72))).below ((Below.refl _ _).alloc (Nat.le_refl _) (.cells #[.slice xA xl.length xc, .slice none 0 0] 72)))
      have HE6 := hd ((HE.o.below ((Below.refl _ _).alloc (Nat.le_refl _) (.cells #[.slice xA xl.length xc, .slice pA xp.length pc] 72))).below ((Below.refl _ _).alloc (Nat.le_refl _) (.cells #[.slice xA xl.length xc, .slice none 0 0] 72)))
      clear c0 c1 hI hS hP hx
      have HEi := hd (show ∀ W' : World, W'.ownsRow (w.heap.size + 3) 72 2 (.slice VA i vc) E.length (cellsR E) → W'.ownsRow (w.heap.size + 3) 72 2 (.slice VA i vc) i (cellsR E) from fun W' h => by rw [← hEl]; rw [← hEl] at h; exact h)
      have HEL := hd hEl
      clear hEl
      obtain ⟨np, hnp⟩ : ∃ np, np = xp.length := ⟨_, rfl⟩
      have HNP := hd hnp
      have hw5 : w.heap.size + 3 ≤ wo.heap.size := HV.o.size
      obtain ⟨wq, hwq⟩ : ∃ wq, wq = wo.alloc (.cells #[.slice xA xl.length xc, .slice pA np pc] 72) := ⟨_, rfl⟩
      have HZq : Hd (wq.heap.size = wo.heap.size + 1) := hd (by rw [hwq]; simp)
      have HAq := hd (show RJ.USt w wq [.int .i64 4, .int .i64 t, .float .f64 v, .string tx, .slice eA ne ec, .slice (some ⟨b1, o1, none⟩) ns sc] 4 0 (.slice none 0 0) (.slice VA i vc) by rw [hwq]; exact HV.o.below ((Below.refl _ _).alloc (Nat.le_refl _) (.cells #[.slice xA xl.length xc, .slice pA np pc] 72)))
      have HEq := hd (show RJ.UK w (w.heap.size + 3) wq (.slice VA i vc) E by rw [hwq]; exact HE.o.below ((Below.refl _ _).alloc (Nat.le_refl _) (.cells #[.slice xA xl.length xc, .slice pA np pc] 72)))
      have HSB : Hd (Bk (wq.alloc (.cells #[.slice xA xl.length xc, .slice none 0 0] 72)) (wo.heap.size + 1) 72 [.slice xA xl.length xc, .slice none 0 0]) := hd (by rw [← HZq.o]; exact heap_alloc_new _ _)
      have HBI : Hd (Below (wo.heap.size + 1) wq (wq.alloc (.cells #[.slice xA xl.length xc, .slice none 0 0] 72))) := hd (by rw [← HZq.o]; exact (Below.refl _ _).alloc (Nat.le_refl _) _)
      rw [← hnp] at d1 hpn
      clear HA6 HE6 hnp
      go_wp2_with fail
      rw [← hwq]
      obtain ⟨wi, hwi⟩ : ∃ wi, wi = wq.alloc (.cells #[.slice xA xl.length xc, .slice none 0 0] 72) := ⟨_, rfl⟩
      rw [← hwi] at HSB HBI ⊢
      clear hwi hwq d0 d1
      go_loopw [57] (fun y wr => ∃ (j : Nat) (qA : Option Addr) (qc : Nat) (Q : List RS.Pt), j ≤ np ∧ y = .int .i64 j ∧ Hd (Below (wo.heap.size + 1) wq wr) ∧ Hd (Bk wr (wo.heap.size + 1) 72 [.slice xA xl.length xc, .slice qA j qc]) ∧ Hd (wr.ownsRow (wo.heap.size + 1 + 1) 77 3 (.slice qA j qc) j (cellsP Q)) ∧ Hd (RJ.PU (xp.take j) Q)) (fun y _ => np - (intOf y).toNat)
      case atStart => exact ⟨0, none, 0, [], Nat.zero_le _, rfl, HBI, HSB, hd (World.ownsRow_nil _ _ _ _), hd ⟨rfl, fun i h h' => by simp at h'⟩⟩
      case round =>
        obtain ⟨j, qA, qc, Q, hj, rfl, HBR, HSR, HOR, HPR⟩ := hrel
        clear HSB HBI
        have HWR := hd (show Below w.heap.size w wr from HAq.o.b.trans (HBR.o.mono (by omega)))
        by_cases hjl : j < np
        · have hjI : (j : Int) < (np : Int) := by omega
          have hjP : j < xp.length := by rw [← HNP.o]; exact hjl
          obtain ⟨b2, o2, rfl, hb2, e0, e1, e2, hok⟩ := HP.o.at_ j hjP
          have f0 := (HWR.o.cell (p := ⟨b2, o2 + j * 3, none⟩) hb2).trans e0
          have f1 := (HWR.o.cell (p := ⟨b2, o2 + j * 3 + 1, none⟩) hb2).trans e1
          have f2 := (HWR.o.cell (p := ⟨b2, o2 + j * 3 + 2, none⟩) hb2).trans e2
          obtain ⟨q, hq⟩ : ∃ q, q = xp[j] := ⟨_, rfl⟩
          have HQX := hd hq
          rw [← hq] at f0 f1 f2
          obtain ⟨qt, qf, qs⟩ := q
          simp only at f0 f1 f2
          have HS8 := hd (HSR.o.below ((Below.refl _ _).alloc (Nat.le_refl _) (.cells #[.int .i64 qt, .float .f64 qf, .bool qs] 77)))
          have HO8 := hd (own_below HOR.o ((Below.refl _ _).alloc (Nat.le_refl _) (.cells #[.int .i64 qt, .float .f64 qf, .bool qs] 77)))
          have HB8 := hd (HBR.o.alloc (Nat.le_trans (by rw [HZq.o]; exact Nat.le_refl _) HBR.o.size) (.cells #[.int .i64 qt, .float .f64 qf, .bool qs] 77))
          have hz5 := HSR.o.lt
          have s1 := HS8.o.cell 1 (by simp)
          simp only [List.getElem_cons_succ, List.getElem_cons_zero] at s1
          clear e0 e1 e2 hok hq
          go_wp2_with (at_builtin; refine wpList_app_litH 70 77 (.agg #[.int .i64 0, .float .f64 0, .bool false]) 3 24 Tryz.underlying70 info_sampleJ rfl (by decide) rfl _ _ rfl (wo.heap.size + 1 + 1) (.slice qA j qc) j (cellsP Q) _ #[.int .i64 qt, .float .f64 qf, .bool false] 1 (wr.heap.size + 1) (by simp) rfl rfl HO8.o rfl (by simp [Value.oneCell']) (by omega) (by omega) (by simp; omega) ?_)
          intro V' w6 ho hg
          obtain ⟨pA', pc', rfl⟩ := own_shape ho
          have hB6 : Below (wo.heap.size + 1 + 1) _ w6 := (Below.refl (wo.heap.size + 1 + 1) _).grown hg (by simp; omega) (fun k hk => (HO8.o.lt k hk).1)
          have HS17 : Hd (Bk w6 (wo.heap.size + 1) 72 [.slice xA xl.length xc, .slice qA j qc]) := hd ((hB6.block _ (Nat.lt_succ_self _)).trans HS8.o)
          have HB17 := hd (HB8.o.trans (hB6.mono (Nat.le_succ _)))
          have g1 := HS17.o.frozen 1
          have p1 := HS17.o.cell 1 (by simp)
          simp only [List.getElem_cons_succ, List.getElem_cons_zero] at p1
          have HO17 := hd (show w6.ownsRow (wo.heap.size + 1 + 1) 77 3 (.slice pA' (j + 1) pc') (j + 1) (cellsP (Q ++ [⟨qt, qf, false⟩])) by rw [cellsP_app]; exact ho)
          have HS18 := hd (show Bk (w6.setCell ⟨wo.heap.size + 1, 1, none⟩ (.slice pA' (j + 1) pc')) (wo.heap.size + 1) 72 [.slice xA xl.length xc, .slice pA' (j + 1) pc'] from HS17.o.set 1 _)
          have HO18 := hd (own_ex HO17.o (Ex.set (wo.heap.size + 1) w6 1 (.slice pA' (j + 1) pc')) (Nat.lt_succ_self _))
          have HB18 := hd (HB17.o.setCell (p := ⟨wo.heap.size + 1, 1, none⟩) (Nat.le_refl _) (.slice pA' (j + 1) pc'))
          have HPR2 := hd (show RJ.PU (xp.take (j + 1)) (Q ++ [⟨qt, qf, false⟩]) from by
            have hQl : Q.length = j := by have := HPR.o.1; rw [List.length_take] at this; omega
            refine ⟨by rw [List.length_append, hQl, List.length_take]; simp; omega, fun a h h' => ?_⟩
            by_cases ha : a < j
            · have h1 := HPR.o.2 a (by rw [List.length_take]; omega) (by rw [hQl]; exact ha)
              rw [List.getElem_append_left (by rw [hQl]; exact ha), List.getElem_take]
              rw [List.getElem_take] at h1
              exact h1
            · obtain rfl : a = j := by rw [List.length_take] at h; omega
              rw [List.getElem_append_right (by rw [hQl]; exact Nat.le_refl _), List.getElem_take, ← HQX.o]
              simp [hQl]
              exact ⟨rfl, rfl, rfl⟩)
          clear ho hg hB6 f0 f1 f2 s1
          go_wp2
          go_roundw
          case rel => exact ⟨j + 1, pA', pc', _, by omega, by go_num, HB18, HS18, HO18, HPR2⟩
          case measure => simp [intOf]; omega
        · obtain rfl : j = np := by omega
          have hBq : Below wq.heap.size wq wr := by rw [HZq.o]; exact HBR.o
          have HA20 := hd (HAq.o.below hBq)
          have HE20 := hd (HEq.o.below hBq)
          have HP20 := hd (own_mono HOR.o (show w.heap.size + 3 ≤ wo.heap.size + 1 + 1 by omega))
          have hzz := HA20.o.size
          rw [HNP.o, List.take_length] at HPR
          have o5 := HA20.o.o.cell 5 (by simp)
          have s0 := HSR.o.cell 0 (by simp)
          have s1 := HSR.o.cell 1 (by simp)
          simp only [List.getElem_cons_succ, List.getElem_cons_zero] at o5 s0 s1
          go_wp2_with (at_builtin; refine wpList_app_litH 24 72 (.agg #[.slice none 0 0, .slice none 0 0]) 2 48 Tryz.underlying24 info_seriesJ rfl (by decide) rfl _ _ rfl (w.heap.size + 3) (.slice VA i vc) i (cellsR E) _ #[.slice xA xl.length xc, .slice qA j qc] 1 _ rfl rfl rfl (HEi.o _ HE20.o.own) rfl (by simp [Value.oneCell']) (by omega) (by omega) hzz ?_)
          intro V' w6 ho hg
          obtain ⟨VA', vc', rfl⟩ := own_shape ho
          have hB6 : Below (w.heap.size + 3) _ w6 := (Below.refl (w.heap.size + 3) _).grown hg HA20.o.size (fun k hk => (HE20.o.own.lt k hk).1)
          have HA21 := hd (HA20.o.grow hB6)
          have hQl : Q.length = j := by rw [HNP.o]; exact HPR.o.1
          have HEW := hd (show RJ.UK w (w.heap.size + 3) w6 (.slice VA' (i + 1) vc') (E ++ [⟨xA, xc, xl, qA, qc, Q⟩]) from HE20.o.push (x := ⟨xA, xc, xl, qA, qc, Q⟩) HI.o (by show World.ownsRow _ _ _ _ (.slice qA Q.length qc) Q.length _; rw [hQl]; exact HP20.o) (by rw [HEL.o]; show World.ownsRow _ _ _ _ _ _ (RJ.cellsR E ++ [.slice xA xl.length xc, .slice qA Q.length qc]); rw [hQl]; exact ho) hg)
          clear hB6 ho hg o5 s0 s1
          have f5 := HA21.o.o.frozen 5
          have p5 := HA21.o.o.cell 5 (by simp)
          simp only [List.getElem_cons_succ, List.getElem_cons_zero] at p5
          have HA22 := hd (RJ.USt.set _ _ HA21.o 5 (.slice VA' (i + 1) vc') 4 0 (.slice none 0 0) (.slice VA' (i + 1) vc') rfl)
          have HE22 := hd (HEW.o.ex (Ex.set (w.heap.size + 1 + 1) w6 5 (.slice VA' (i + 1) vc')) (by omega))
          have HR22 := hd (show RJ.MU (L.take (i + 1)) (E ++ [⟨xA, xc, xl, qA, qc, Q⟩]) from by
            refine ⟨by rw [List.length_append, HEL.o, List.length_take]; simp; omega, fun j h h' => ?_⟩
            by_cases hj : j < i
            · have h1 := HR.o.2 j (by rw [List.length_take]; omega) (by rw [HEL.o]; exact hj)
              rw [List.getElem_append_left (by rw [HEL.o]; exact hj), List.getElem_take]
              rw [List.getElem_take] at h1
              exact h1
            · obtain rfl : j = i := by rw [List.length_take] at h; omega
              rw [List.getElem_append_right (by rw [HEL.o]; exact Nat.le_refl _), List.getElem_take, ← HX.o]
              simp [HEL.o]
              exact HPR.o)
          go_wp2
          go_roundw
          case rel => exact ⟨i + 1, VA', vc', _, by omega, by go_num, HA22, HE22, HR22⟩
          case measure => simp [intOf]; omega
    · obtain rfl : i = ns := by omega
      have f1 := HV.o.r.frozen
      have r0 := HV.o.r.cell 0 (by simp)
      have r1 := HV.o.r.cell 1 (by simp)
      have r2 := HV.o.r.cell 2 (by simp)
      have r3 := HV.o.r.cell 3 (by simp)
      have r4 := HV.o.r.cell 4 (by simp)
      have r5 := HV.o.r.cell 5 (by simp)
      have o0 := HV.o.o.cell 0 (by simp)
      have o1 := HV.o.o.cell 1 (by simp)
      have o2 := HV.o.o.cell 2 (by simp)
      have o3 := HV.o.o.cell 3 (by simp)
      have o4 := HV.o.o.cell 4 (by simp)
      have o5 := HV.o.o.cell 5 (by simp)
      simp only [List.getElem_cons_succ, List.getElem_cons_zero] at r0 r1 r2 r3 r4 r5 o0 o1 o2 o3 o4 o5
      go_wp2_with fail
      have HZ := hd (RJ.res6_set HV.o.r (.int .i64 4) (.int .i64 0) (.float .f64 0) (.string ⟨#[]⟩) (.slice none 0 0) (.slice VA i vc) _ rfl)
      have HZ2 := hd (RJ.res6_ex wo (w.heap.size + 1) (.int .i64 4) (.int .i64 0) (.float .f64 0) (.string ⟨#[]⟩) (.slice none 0 0) (.slice VA i vc))
      have hb0 : Below w.heap.size w _ := HV.o.b.trans (HZ2.o.below (Nat.le_succ _) HV.o.b.size)
      have HE9 := HE.o.ex HZ2.o (by omega)
      have HE10 : RJ.UK w w.heap.size _ (.slice VA i vc) E := ⟨own_mono HE9.own (by omega), HE9.lab, fun y hy => own_mono (HE9.pts y hy) (by omega)⟩
      clear HE9 HZ2
      revert HE10 hb0 HZ
      generalize (((((wo.setCell ⟨w.heap.size + 1, 0, none⟩ (.int .i64 4)).setCell ⟨w.heap.size + 1, 1, none⟩ (.int .i64 0)).setCell ⟨w.heap.size + 1, 2, none⟩ (.float .f64 0)).setCell ⟨w.heap.size + 1, 3, none⟩ (.string ⟨#[]⟩)).setCell ⟨w.heap.size + 1, 4, none⟩ (.slice none 0 0)).setCell ⟨w.heap.size + 1, 5, none⟩ (.slice VA i vc) = X
      intro HZ hb0 HE10
      refine bodyPost_ret (RJ.res6 rfl _ rfl HZ.o) rfl ?_
      rw [HNS.o, List.take_length] at HR
      refine ⟨⟨VA, vc, E, by rw [hEl], ?_, HR.o⟩, hb0⟩
      rw [hEl]
      exact ⟨HE10.own, HE10.lab, HE10.pts⟩
end Go.Proofs.YteckfdohgiddgaaGreatDoor
namespace Go.Proofs.YteckfdohgiddgaaGreatDoor
open Go.RowKit Go.ChangeShapes Go.WideShapes Go.Deep
set_option linter.unusedVariables false
set_option linter.unusedSimpArgs false
open RJ
namespace RJ
theorem own_slB {W : World} {B : Nat} {v : Value} {m : Nat} {bs : List UInt8} (h : W.ownsRow B 5 1 v m (cellsB bs)) : ∃ A c, v = .slice A bs.length c ∧ bs.length ≤ c ∧ IsL 1 W (.slice A bs.length c) bs.length (cellsB bs) := by
  have hm : m = bs.length := by have := h.1; rw [cellsB_len] at this; omega
  subst hm
  have hI := IsL.own h
  rcases h.2 with ⟨rfl, h0⟩ | ⟨g, cap, cur, rfl, _, _, hc, _⟩
  · refine ⟨none, 0, by rw [h0], by omega, ?_⟩
    rw [h0]
    rw [h0] at hI
    exact hI
  · exact ⟨_, cap, rfl, hc, hI⟩
theorem whole_le' {n b : List UInt8} (hn : n.length ≤ 20) (hb : b.length ≤ 35184372088832) : (RS.whole n b).length ≤ 70368744177664 := by
  unfold RS.whole
  rw [List.length_append, List.length_append, RS.head_len]
  simp only [List.length_cons, List.length_nil]
  omega
theorem bytes_le' {w : World} {r : RS.Res} (h : r.Ok w) : (RS.bytes r).length ≤ 70368744177664 := by
  unfold RS.bytes
  split
  · exact whole_le' (by decide) (Nat.le_trans (RS.pt_len _ _ h.t0 h.t1) (by decide))
  · split
    · refine whole_le' (by decide) ?_
      have h1 := T.sec_len r.t h.t0 h.t1
      have h2 := R.t_len r.tx
      have h3 := h.tx
      simp only [List.length_cons, List.length_append, List.length_nil]
      omega
    · split
      · exact whole_le' (by decide) (Nat.le_trans (RS.lst_le h.eJ) (by decide))
      · split
        · exact whole_le' (by decide) (Nat.le_trans (RS.lst_le h.sJ) (by decide))
        · decide
theorem fx_self' {s : ByteArray} (h : U.valid s = true) : fx s = s := by unfold fx; rw [if_pos h]
theorem fxl_self {l : List Lb} (h : tL l) : fxl l = l := by
  unfold fxl
  conv => rhs; rw [← List.map_id l]
  exact List.map_congr_left fun x hx => by rw [fx_self' (h x hx).1, fx_self' (h x hx).2]; rfl
/-- two answers alike: what SameResult asks -/
structure Alk (W : World) (a b : Value) : Prop where
  same : ∀ W', Below W.heap.size W W' → Calls Tryz.prog 14 #[a, b] W' fun e w' => e = .returned (.bool true) ∧ Below W'.heap.size W' w'
theorem nil_es (W : World) (A : Option Addr) : RS.IsEs W A [] := fun i hi => by simp at hi
theorem nil_ss (W : World) (A : Option Addr) : RS.IsSs W A [] := fun i hi => by simp at hi
theorem v0 (W : World) : Calls Tryz.prog 52 #[.slice none 0 0, .slice none 0 0] W fun e w' => e = .returned (.bool true) ∧ Below W.heap.size W w' :=
  smvec_any none none 0 0 [] [] W (nil_es _ _) (nil_es _ _) rfl (fun i h => by simp at h) (by simp)
theorem m0 (W : World) : Calls Tryz.prog 53 #[.slice none 0 0, .slice none 0 0] W fun e w' => e = .returned (.bool true) ∧ Below W.heap.size W w' :=
  smmat_any none none 0 0 [] [] W (nil_ss _ _) (nil_ss _ _) rfl (fun i h => by simp at h) (by simp)
theorem same00 : FO.same 0 0 = true := by unfold FO.same; simp
/-- what the two calls answer, told once: Back's answer and used's, alike -/
def BU (r : RS.Res) (w : World) : Prop := ∀ (A : Option Addr) (c : Nat) (W : World), Below w.heap.size w W → IsL 1 W (.slice A (RS.bytes r).length c) (RS.bytes r).length (cellsB (RS.bytes r)) → (RS.bytes r).length ≤ c →
  Calls Tryz.prog 12 #[.slice A (RS.bytes r).length c] W fun e w' => (∃ q0 q1 q2 q3 A4 n4 c4 A5 n5 c5, e = .returned (.tuple #[.agg #[.int .i64 q0, .int .i64 q1, .float .f64 q2, .string q3, .slice A4 n4 c4, .slice A5 n5 c5], .bool true]) ∧
    ∀ W', Below w'.heap.size w' W' → Calls Tryz.prog 15 #[r.val] W' fun e2 w2 => (∃ p0 p1 p2 p3 B4 m4 d4 B5 m5 d5, e2 = .returned (.agg #[.int .i64 p0, .int .i64 p1, .float .f64 p2, .string p3, .slice B4 m4 d4, .slice B5 m5 d5]) ∧
      Alk w2 (.agg #[.int .i64 q0, .int .i64 q1, .float .f64 q2, .string q3, .slice A4 n4 c4, .slice A5 n5 c5]) (.agg #[.int .i64 p0, .int .i64 p1, .float .f64 p2, .string p3, .slice B4 m4 d4, .slice B5 m5 d5])) ∧ Below W'.heap.size W' w2) ∧ Below W.heap.size W w'
end RJ
theorem bu1 (r : RS.Res) (w : World) (hk : r.Ok w) (hp : RJ.Pln r) (h : r.ty = 1) : RJ.BU r w := by
  intro A c W hb hI hc
  have hE := enc_res r hk
  have hlim := bytes_le' hk
  unfold resT at hE
  rw [if_pos h] at hE
  obtain ⟨ty, t, v, tx, eA, ec, E, sA, sc, S⟩ := r
  obtain rfl : ty = 1 := h
  generalize RS.bytes ⟨1, t, v, tx, eA, ec, E, sA, sc, S⟩ = b at *
  refine (back_scalar b t v hp.t.1 hp.t.2 hk.v (shown_ex v hk.v w hk.T) hE A c hI hc (by omega)).mono ?_
  rintro e w' ⟨⟨g, rfl, hsm⟩, hb'⟩
  refine ⟨⟨1, t, g, ⟨#[]⟩, none, 0, 0, none, 0, 0, rfl, fun W' hW' => ?_⟩, hb'⟩
  refine (used1_any t v tx eA sA E.length ec S.length sc W').mono ?_
  rintro e2 w2 ⟨rfl, hb2⟩
  refine ⟨⟨1, t, v, ⟨#[]⟩, none, 0, 0, none, 0, 0, rfl, ⟨fun W'' hb'' => ?_⟩⟩, hb2⟩
  exact smres_any 1 t g v ⟨#[]⟩ none none none none 0 0 0 0 0 0 0 0 hsm.2 hk.v hsm.1 W'' (fun W _ => v0 W) (fun W _ => m0 W)
theorem bu2 (r : RS.Res) (w : World) (hk : r.Ok w) (hp : RJ.Pln r) (h : r.ty = 2) : RJ.BU r w := by
  intro A c W hb hI hc
  have hE := enc_res r hk
  have hlim := bytes_le' hk
  unfold resT at hE
  rw [if_neg (by omega), if_pos h, fx_self' hp.tx] at hE
  obtain ⟨ty, t, v, tx, eA, ec, E, sA, sc, S⟩ := r
  obtain rfl : ty = 2 := h
  generalize RS.bytes ⟨2, t, v, tx, eA, ec, E, sA, sc, S⟩ = b at *
  refine (back_string b t tx hp.t.1 hp.t.2 hE A c hI hc (by omega)).mono ?_
  rintro e w' ⟨rfl, hb'⟩
  refine ⟨⟨2, t, 0, tx, none, 0, 0, none, 0, 0, rfl, fun W' hW' => ?_⟩, hb'⟩
  refine (used2_any t v tx eA sA E.length ec S.length sc W').mono ?_
  rintro e2 w2 ⟨rfl, hb2⟩
  refine ⟨⟨2, t, 0, tx, none, 0, 0, none, 0, 0, rfl, ⟨fun W'' hb'' => ?_⟩⟩, hb2⟩
  exact smres_any 2 t 0 0 tx none none none none 0 0 0 0 0 0 0 0 (by decide) (by decide) same00 W'' (fun W _ => v0 W) (fun W _ => m0 W)
theorem bu3 (r : RS.Res) (w : World) (hk : r.Ok w) (hp : RJ.Pln r) (h : r.ty = 3) : RJ.BU r w := by
  intro A c W hb hI hc
  have hE := enc_res r hk
  have hlim := bytes_le' hk
  unfold resT at hE
  rw [if_neg (by omega), if_neg (by omega), if_pos h] at hE
  have hnE := hk.nE
  obtain ⟨ty, t, v, tx, eA, ec, E, sA, sc, S⟩ := r
  obtain rfl : ty = 3 := h
  simp only at hE hnE
  have hpE : ∀ x ∈ E, RJ.tL x.l := hp.E
  have hIE : RS.IsEs w eA E := hk.E
  have hwE : RS.wt RS.gE E ≤ 1048576 := hk.wE
  have hx : ∀ x ∈ E, x.f < 18446744073709551616 ∧ RS.SmL' x.l ∧ x.l.length ≤ 1048576 := fun x hx => by
    obtain ⟨i, hi, rfl⟩ := List.mem_iff_getElem.1 hx
    obtain ⟨_, _, _, _, _, _, _, hs, hf⟩ := hIE.at_ i hi
    have := RS.wt_mem RS.gE E _ (List.getElem_mem hi)
    have h2 : RS.gE E[i] = E[i].l.length + 1 := rfl
    exact ⟨hf, hs, by omega⟩
  generalize RS.bytes ⟨3, t, v, tx, eA, ec, E, sA, sc, S⟩ = b at *
  refine (back_vector b t E hp.t.1 hp.t.2 (fun x hxm => ⟨(hx x hxm).1, shown_ex x.f (hx x hxm).1 w hk.T, by have := (hx x hxm).2.2; omega⟩) (by omega) hE A c hI hc (by omega)).mono ?_
  rintro e w' ⟨⟨VA, vc, E', rfl, hek, hvl, hvr⟩, hb'⟩
  have hel : ∀ i (h : i < E'.length) (h' : i < E.length), E'[i].l = E[i].l ∧ FO.same E'[i].f E[i].f = true ∧ E'[i].l.length ≤ 1125899906842624 ∧ E'[i].f < 18446744073709551616 := fun i h h' => by
    obtain ⟨a1, a2⟩ := hvr i h' h
    have a3 := hx _ (List.getElem_mem h')
    rw [a1, fxl_self (hpE _ (List.getElem_mem h'))]
    exact ⟨rfl, a2.1, by omega, a2.2⟩
  have hrows : ∀ W, Below w'.heap.size w' W → RS.IsEs W VA E' := fun W hbW => (hek.below hbW).rows fun x hxm => by
    obtain ⟨i, hi, rfl⟩ := List.mem_iff_getElem.1 hxm
    have h' : i < E.length := by omega
    rw [(hel i hi h').1]
    exact ⟨(hx _ (List.getElem_mem h')).2.1, (hel i hi h').2.2.2⟩
  refine ⟨⟨3, _, 0, ⟨#[]⟩, VA, E'.length, vc, none, 0, 0, rfl, fun W' hW' => ?_⟩, hb'⟩
  have hfin : ∀ (T : Int) (w2 : World), Below W'.heap.size W' w2 → Alk w2 (.agg #[.int .i64 3, .int .i64 T, .float .f64 0, .string ⟨#[]⟩, .slice VA E'.length vc, .slice none 0 0]) (.agg #[.int .i64 3, .int .i64 T, .float .f64 0, .string ⟨#[]⟩, .slice eA E.length ec, .slice none 0 0]) := fun T w2 hb2 =>
    ⟨fun W'' hb'' => smres_any 3 T 0 0 ⟨#[]⟩ VA eA none none E'.length E.length 0 0 vc ec 0 0 (by decide) (by decide) same00 W''
      (fun W3 hb3 => smvec_any VA eA vc ec E' E W3 (hrows W3 ((bel hW' hb2).trans ((hb''.mono (bel hW' hb2).size).trans (hb3.mono (by have := (bel hW' hb2).size; have := hb''.size; omega))))) (hIE.below (hb.trans (((hb'.mono hb.size).trans ((bel hW' hb2).mono (by have := hb.size; have := hb'.size; omega))).trans ((hb''.mono (by have := hb.size; have := hb'.size; have := (bel hW' hb2).size; omega)).trans (hb3.mono (by have := hb.size; have := hb'.size; have := (bel hW' hb2).size; have := hb''.size; omega)))))) hvl (fun i h h' => ⟨(hel i h h').1, (hel i h h').2.1, (hel i h h').2.2.1⟩) (by omega))
      (fun W _ => m0 W)⟩
  by_cases h0 : E.length = 0
  · rw [if_pos h0]
    obtain rfl : E = [] := List.eq_nil_of_length_eq_zero h0
    refine (used3z_any t v tx eA sA ec S.length sc W').mono ?_
    rintro e2 w2 ⟨rfl, hb2⟩
    exact ⟨⟨3, 0, 0, ⟨#[]⟩, eA, 0, ec, none, 0, 0, rfl, hfin 0 w2 hb2⟩, hb2⟩
  · rw [if_neg h0]
    refine (used3_any t v tx eA sA E.length ec S.length sc W' (by omega)).mono ?_
    rintro e2 w2 ⟨rfl, hb2⟩
    exact ⟨⟨3, t, 0, ⟨#[]⟩, eA, E.length, ec, none, 0, 0, rfl, hfin t w2 hb2⟩, hb2⟩
theorem RJ.UK.rows {w0 : World} {B : Nat} {W : World} {A : Option Addr} {c : Nat} {E : List RS.Sr} (h : RJ.UK w0 B W (.slice A E.length c) E) (hb : Below w0.heap.size w0 W) (hs : ∀ x ∈ E, RS.SmL' x.l ∧ ∀ p ∈ x.ps, p.ok) : RS.IsSs W A E :=
  jrow_of (by decide) (fun _ _ => rfl) (IsL.own h.own) (fun x hx => ⟨(h.lab x hx).below hb, (hs x hx).1, RJ.pts_rows (c := x.pc) (h.pts x hx) (hs x hx).2⟩)
theorem bu4 (r : RS.Res) (w : World) (hk : r.Ok w) (hp : RJ.Pln r) (h : r.ty = 4) : RJ.BU r w := by
  intro A c W hb hI hc
  have hE := enc_res r hk
  have hlim := bytes_le' hk
  unfold resT at hE
  rw [if_neg (by omega), if_neg (by omega), if_neg (by omega), if_pos h] at hE
  have hnS := hk.nS
  obtain ⟨ty, t, v, tx, eA, ec, E0, sA, sc, S⟩ := r
  obtain rfl : ty = 4 := h
  simp only at hE hnS
  have hpS : ∀ x ∈ S, RJ.tL x.l ∧ ∀ p ∈ x.ps, RJ.tm p.t := hp.S
  have hIS : RS.IsSs w sA S := hk.S
  have hwS : RS.wt RS.gS S ≤ 1048576 := hk.wS
  have hx : ∀ x ∈ S, RS.SmL' x.l ∧ x.l.length ≤ 1048576 ∧ x.ps.length ≤ 1048576 ∧ ∀ p ∈ x.ps, p.ok := fun x hx => by
    obtain ⟨i, hi, rfl⟩ := List.mem_iff_getElem.1 hx
    obtain ⟨_, _, _, _, _, _, _, hs, hP⟩ := hIS.at_ i hi
    have := RS.wt_mem RS.gS S _ (List.getElem_mem hi)
    have h2 : RS.gS S[i] = S[i].l.length + S[i].ps.length + 1 := rfl
    refine ⟨hs, by omega, by omega, fun p hpm => ?_⟩
    obtain ⟨j, hj, rfl⟩ := List.mem_iff_getElem.1 hpm
    obtain ⟨_, _, _, _, _, _, _, hok⟩ := hP.at_ j hj
    exact hok
  generalize RS.bytes ⟨4, t, v, tx, eA, ec, E0, sA, sc, S⟩ = b at *
  refine (back_matrix b S (fun x hxm => ⟨by have := (hx x hxm).2.1; omega, by have := (hx x hxm).2.2.1; omega, fun p hpm => ⟨((hpS x hxm).2 p hpm).1, ((hpS x hxm).2 p hpm).2, ((hx x hxm).2.2.2 p hpm).2.2, shown_ex p.f ((hx x hxm).2.2.2 p hpm).2.2 w hk.T⟩⟩) (by omega) hE A c hI hc (by omega)).mono ?_
  rintro e w' ⟨⟨VA, vc, E, rfl, hek, hvl, hvr⟩, hb'⟩
  have hel : ∀ i (h : i < E.length) (h' : i < S.length), E[i].l = S[i].l ∧ E[i].ps.length = S[i].ps.length ∧ ∀ j (g : j < E[i].ps.length) (g' : j < S[i].ps.length), (E[i].ps[j]'g).t = (S[i].ps[j]'g').t ∧ (E[i].ps[j]'g).st = false ∧ FO.same (E[i].ps[j]'g).f (S[i].ps[j]'g').f = true ∧ (E[i].ps[j]'g).f < 18446744073709551616 := fun i h h' => by
    obtain ⟨a1, a2, a3⟩ := hvr i h' h
    rw [fxl_self (hpS _ (List.getElem_mem h')).1] at a1
    exact ⟨a1, a2, fun j g g' => ⟨(a3 j g' g).1, (a3 j g' g).2.1, (a3 j g' g).2.2.1, (a3 j g' g).2.2.2⟩⟩
  have hrows : ∀ W, Below w'.heap.size w' W → RS.IsSs W VA E := fun W hbW => (hek.below hbW).rows fun x hxm => by
    obtain ⟨i, hi, rfl⟩ := List.mem_iff_getElem.1 hxm
    have h' : i < S.length := by omega
    obtain ⟨a1, a2, a3⟩ := hel i hi h'
    refine ⟨by rw [a1]; exact (hx _ (List.getElem_mem h')).1, fun p hpm => ?_⟩
    obtain ⟨j, hj, rfl⟩ := List.mem_iff_getElem.1 hpm
    have hj' : j < S[i].ps.length := by omega
    obtain ⟨b1, b2, b3, b4⟩ := a3 j hj hj'
    have b5 := (hpS _ (List.getElem_mem h')).2 _ (List.getElem_mem hj')
    unfold RJ.tm at b5
    exact ⟨by rw [b1]; omega, by rw [b1]; omega, b4⟩
  refine ⟨⟨4, 0, 0, ⟨#[]⟩, none, 0, 0, VA, E.length, vc, rfl, fun W' hW' => ?_⟩, hb'⟩
  have hwW' : Below w.heap.size w W' := hb.trans ((hb'.mono hb.size).trans (hW'.mono (by have := hb.size; have := hb'.size; omega)))
  refine (used4_any t v tx eA sA E0.length ec S.length sc S W' (hIS.below hwW') rfl (by omega) (fun x hxm => by have := (hx x hxm).2.2.1; omega)).mono ?_
  rintro e2 w2 ⟨⟨VB, vd, F, rfl, huk, hul, hur⟩, hb2⟩
  have hfr : ∀ W, Below w2.heap.size w2 W → RS.IsSs W VB F := fun W hbW => RJ.UK.rows (huk.below hbW) (bel hb2 hbW) fun x hxm => by
    obtain ⟨i, hi, rfl⟩ := List.mem_iff_getElem.1 hxm
    have h' : i < S.length := by omega
    obtain ⟨a1, a2, a3⟩ := hur i h' hi
    refine ⟨by rw [a1]; exact (hx _ (List.getElem_mem h')).1, fun p hpm => ?_⟩
    obtain ⟨j, hj, rfl⟩ := List.mem_iff_getElem.1 hpm
    have hj' : j < S[i].ps.length := by omega
    obtain ⟨b1, b2, b3⟩ := a3 j hj' hj
    have b5 := (hx _ (List.getElem_mem h')).2.2.2 _ (List.getElem_mem hj')
    unfold RS.Pt.ok at b5 ⊢
    rw [b1, b3]
    exact b5
  refine ⟨⟨4, 0, 0, ⟨#[]⟩, none, 0, 0, VB, F.length, vd, rfl, ⟨fun W'' hb'' => ?_⟩⟩, hb2⟩
  exact smres_any 4 0 0 0 ⟨#[]⟩ none none VA VB 0 0 E.length F.length 0 0 vc vd (by decide) (by decide) same00 W'' (fun W _ => v0 W)
    (fun W3 hb3 => smmat_any VA VB vc vd E F W3 (hrows W3 (bel (bel hW' hb2) (bel hb'' hb3))) (hfr W3 (bel hb'' hb3)) (by omega) (fun i h h' => by
      have hs : i < S.length := by omega
      obtain ⟨a1, a2, a3⟩ := hel i h hs
      obtain ⟨c1, c2, c3⟩ := hur i hs h'
      have d := hx _ (List.getElem_mem hs)
      refine ⟨by rw [a1, c1], by rw [a1]; omega, by omega, by omega, fun j g g' => ?_⟩
      have gs : j < S[i].ps.length := by omega
      obtain ⟨x1, x2, x3, x4⟩ := a3 j g gs
      obtain ⟨y1, y2, y3⟩ := c3 j gs g'
      exact ⟨by rw [x1, y1], by rw [x2, y2], by rw [y3]; exact x3⟩) (by omega))
theorem bu_any (r : RS.Res) (w : World) (hk : r.Ok w) (hp : RJ.Pln r) : RJ.BU r w := by
  have h := hp.ty
  by_cases h1 : r.ty = 1
  · exact bu1 r w hk hp h1
  by_cases h2 : r.ty = 2
  · exact bu2 r w hk hp h2
  by_cases h3 : r.ty = 3
  · exact bu3 r w hk hp h3
  exact bu4 r w hk hp (by omega)
end Go.Proofs.YteckfdohgiddgaaGreatDoor
namespace Go.Proofs.YteckfdohgiddgaaGreatDoor
open Go.RowKit Go.ChangeShapes Go.WideShapes Go.Deep
set_option linter.unusedVariables false
set_option linter.unusedSimpArgs false
open RJ
theorem lo_below' {w w' : World} {r : RS.Res} (h : r.Lo w) (hb : Below w.heap.size w w') : r.Lo w' := by
  refine ⟨fun i hi => ?_, fun i hi => ?_, h.nE, h.nS, h.lE, h.lS⟩
  · obtain ⟨b, off, e, hl, h1, h2⟩ := h.E i hi
    exact ⟨b, off, e, Nat.lt_of_lt_of_le hl hb.size, (hb.cell (p := ⟨b, off + i * 2, none⟩) hl).trans h1, (hb.cell (p := ⟨b, off + i * 2 + 1, none⟩) hl).trans h2⟩
  · obtain ⟨b, off, e, hl, h1, h2⟩ := h.S i hi
    exact ⟨b, off, e, Nat.lt_of_lt_of_le hl hb.size, (hb.cell (p := ⟨b, off + i * 2, none⟩) hl).trans h1, (hb.cell (p := ⟨b, off + i * 2 + 1, none⟩) hl).trans h2⟩
set_option maxRecDepth 100000 in
set_option maxHeartbeats 8000000 in
theorem rback_walk (r : RS.Res) (w : World) (hL : r.Lo w) (hOk : RS.tot r ≤ 1048576 → r.Ok w) :
    Calls Tryz.prog 3 #[r.val] w fun e w' => e = .returned (.bool true) ∧ Below w.heap.size w w' := by
  obtain ⟨W, hW⟩ : ∃ W, W = w.alloc (.cells r.cells.toArray 26) := ⟨_, rfl⟩
  have HBW : Hd (Below w.heap.size w W) := hd (by rw [hW]; exact (Below.refl _ _).alloc (Nat.le_refl _) _)
  have hWz : W.heap.size = w.heap.size + 1 := by rw [hW]; simp
  have HBX : Hd (∀ W', Below W.heap.size W W' → ∀ j (hj : j < 6), W'.cell? ⟨w.heap.size, j, none⟩ = some (r.cells[j]'hj)) := hd fun W' h j hj => by
    rw [h.cell (p := ⟨w.heap.size, j, none⟩) (show w.heap.size < W.heap.size by omega), hW, World.cell?_alloc_mark, ← Array.getElem?_toList, List.getElem?_eq_getElem hj]
  have HBw : Hd (∀ W', Below W.heap.size W W' → Below w.heap.size w W') := hd fun W' hb => HBW.o.trans (hb.mono (by omega))
  have HL := hd hL
  have HK := hd hOk
  have HTOT := hd (fun n => (Nat.le_refl n))
  clear hL hOk
  have HBU := hd (fun (W : World) (hb : Below w.heap.size w W) (h : RS.tot r ≤ 1048576) (hp : RJ.Pln r) => bu_any r W ((HK.o h).below hb) hp)
  have HRO := hd (fun (W : World) (hb : Below w.heap.size w W) (h : RS.tot r ≤ 1048576) => res_own r W ((HK.o h).below hb))
  have HPL := hd (fun (W : World) (hb : Below w.heap.size w W) (h : RS.tot r ≤ 1048576) => rjplain_any r W ((HK.o h).below hb))
  have HPA := hd (fun (W : World) (hb : Below w.heap.size w W) => rparts_any 1048576 (Nat.le_refl _) r W (lo_below' HL.o hb))
  obtain ⟨tot, htot⟩ : ∃ tot, tot = RS.tot r := ⟨_, rfl⟩
  obtain ⟨bs, hbs⟩ : ∃ bs, bs = RS.bytes r := ⟨_, rfl⟩
  obtain ⟨P, hP⟩ : ∃ P, P = RJ.Pln r := ⟨_, rfl⟩
  unfold RS.PA at HPA
  unfold RJ.BU at HBU
  simp only [← htot, ← hbs, ← hP] at HBU HRO HPL HPA
  clear htot hbs hP HK HL HTOT
  obtain ⟨ty, t, v, tx, eA, ec, E, mA, mc, M⟩ := r
  unfold RS.Res.val RS.Res.cells at *
  simp only at *
  go_enter Tryz.func3, Tryz.ntmps3
  go_wp2_with fail
  rw [← hW]
  clear hW
  refine (rawake_any _).mono ?_
  rintro e w1 ⟨rfl, hb1⟩
  have HB1 := hd hb1
  clear hb1
  have b0 := HBX.o w1 HB1.o 0 (by decide)
  have b1 := HBX.o w1 HB1.o 1 (by decide)
  have b2 := HBX.o w1 HB1.o 2 (by decide)
  have b3 := HBX.o w1 HB1.o 3 (by decide)
  have b4 := HBX.o w1 HB1.o 4 (by decide)
  have b5 := HBX.o w1 HB1.o 5 (by decide)
  simp only [List.getElem_cons_zero, List.getElem_cons_succ] at b0 b1 b2 b3 b4 b5
  go_wp2_with fail
  refine (HPA.o _ (HBw.o _ HB1.o)).mono ?_
  rintro e w3 ⟨⟨n, rfl, hpa⟩, hb3⟩
  have HTN := hd hpa
  have HB3 := hd (bel HB1.o hb3)
  clear hb3 hpa b0 b1 b2 b3 b4 b5
  by_cases hbig : n ≤ 1048576
  · have hb : ¬ (1048576 : Int) < (n : Int) := by omega
    have htot : tot ≤ 1048576 := by rw [← HTN.o hbig]; exact hbig
    have c0 := HBX.o w3 HB3.o 0 (by decide)
    have c1 := HBX.o w3 HB3.o 1 (by decide)
    have c2 := HBX.o w3 HB3.o 2 (by decide)
    have c3 := HBX.o w3 HB3.o 3 (by decide)
    have c4 := HBX.o w3 HB3.o 4 (by decide)
    have c5 := HBX.o w3 HB3.o 5 (by decide)
    simp only [List.getElem_cons_zero, List.getElem_cons_succ] at c0 c1 c2 c3 c4 c5
    go_wp2_with fail
    refine (HPL.o _ (HBw.o _ HB3.o) htot).mono ?_
    rintro e w4 ⟨⟨pb, rfl, hp⟩, hb4⟩
    have HB4 := hd (bel HB3.o hb4)
    have HPB := hd hp
    clear hb4 hp c0 c1 c2 c3 c4 c5
    cases pb with
    | false =>
      go_wp2
      go_ret
      exact ⟨rfl, HBw.o _ HB4.o⟩
    | true =>
      have hP := HPB.o rfl
      clear HPB
      have c0 := HBX.o w4 HB4.o 0 (by decide)
      have c1 := HBX.o w4 HB4.o 1 (by decide)
      have c2 := HBX.o w4 HB4.o 2 (by decide)
      have c3 := HBX.o w4 HB4.o 3 (by decide)
      have c4 := HBX.o w4 HB4.o 4 (by decide)
      have c5 := HBX.o w4 HB4.o 5 (by decide)
      simp only [List.getElem_cons_zero, List.getElem_cons_succ] at c0 c1 c2 c3 c4 c5
      go_wp2_with fail
      refine (HRO.o _ (HBw.o _ HB4.o) htot).mono ?_
      rintro e w5 ⟨⟨v0, m0, rfl, h⟩, hb5⟩
      obtain ⟨A0, c0', rfl, hc, hI⟩ := own_slB h
      have HB5 := hd (bel HB4.o hb5)
      clear h c0 c1 c2 c3 c4 c5
      go_wp2_with fail
      refine (HBU.o _ (HBw.o _ HB5.o) htot hP A0 c0' _ (Below.refl _ _) hI hc).mono ?_
      rintro e w6 ⟨⟨q0, q1, q2, q3, A4, n4, c4, A5, n5, c5, rfl, hu⟩, hb6⟩
      have HU := hd hu
      have HB6 := hd (bel HB5.o hb6)
      clear hu hb6 hI hc
      go_wp2_with fail
      have HR8 : Hd (Bk (w6.alloc (.cells #[.int .i64 q0, .int .i64 q1, .float .f64 q2, .string q3, .slice A4 n4 c4, .slice A5 n5 c5] 26)) w6.heap.size 26 [.int .i64 q0, .int .i64 q1, .float .f64 q2, .string q3, .slice A4 n4 c4, .slice A5 n5 c5]) := hd (heap_alloc_new _ _)
      have HB68 := hd ((Below.refl w6.heap.size w6).alloc (Nat.le_refl _) (.cells #[.int .i64 q0, .int .i64 q1, .float .f64 q2, .string q3, .slice A4 n4 c4, .slice A5 n5 c5] 26))
      generalize w6.alloc (.cells #[.int .i64 q0, .int .i64 q1, .float .f64 q2, .string q3, .slice A4 n4 c4, .slice A5 n5 c5] 26) = w8 at HR8 HB68 ⊢
      have HB8 := hd (bel HB6.o HB68.o)
      have HXd := hd (fun (W' : World) (hb : Below w8.heap.size w8 W') => HBX.o W' (bel HB8.o hb))
      have HRd := hd (fun (W' : World) (hb : Below w8.heap.size w8 W') => HR8.o.below hb)
      have HUd := hd (fun (W' : World) (hb : Below w8.heap.size w8 W') => HU.o W' (bel HB68.o hb))
      have HFd := hd (fun (W' : World) (hb : Below w8.heap.size w8 W') => HBw.o _ (bel HB8.o hb))
      clear HBX HBU HRO HPL HPA HBw HBW HB1 HB3 HB4 HB5 HB6 HB8 HR8 HB68 HU
      have c0 := HXd.o w8 (Below.refl _ _) 0 (by decide)
      have c1 := HXd.o w8 (Below.refl _ _) 1 (by decide)
      have c2 := HXd.o w8 (Below.refl _ _) 2 (by decide)
      have c3 := HXd.o w8 (Below.refl _ _) 3 (by decide)
      have c4 := HXd.o w8 (Below.refl _ _) 4 (by decide)
      have c5 := HXd.o w8 (Below.refl _ _) 5 (by decide)
      have HR := HRd.o w8 (Below.refl _ _)
      have d0 := HR.cell 0 (by simp)
      have d1 := HR.cell 1 (by simp)
      have d2 := HR.cell 2 (by simp)
      have d3 := HR.cell 3 (by simp)
      have d4 := HR.cell 4 (by simp)
      have d5 := HR.cell 5 (by simp)
      simp only [List.getElem_cons_zero, List.getElem_cons_succ] at c0 c1 c2 c3 c4 c5 d0 d1 d2 d3 d4 d5
      clear HR
      go_region_with (first
        | (go_at_call 15; go_loud (refine (HUd.o _ ?_).mono ?_; (first | exact Below.refl _ _ | exact Below.drew (Below.refl _ _)); rintro e w9 ⟨⟨p0, p1, p2, p3, B4, m4, d4', B5, m5, d5', rfl, hal⟩, hb9⟩; have HAL := hd hal; have HB9 : Hd (Below w8.heap.size w8 w9) := hd (by first | exact bel (Below.drew (Below.refl _ _)) hb9 | exact bel (Below.refl _ _) hb9); clear hal hb9; have HR9 := HRd.o w9 HB9.o; have e0 := HR9.cell 0 (by simp); have e1 := HR9.cell 1 (by simp); have e2 := HR9.cell 2 (by simp); have e3 := HR9.cell 3 (by simp); have e4 := HR9.cell 4 (by simp); have e5 := HR9.cell 5 (by simp); simp only [List.getElem_cons_zero, List.getElem_cons_succ] at e0 e1 e2 e3 e4 e5; clear HR9))
        | (go_at_call 14; refine (HAL.o.same _ (Below.refl _ _)).mono ?_; rintro e w10 ⟨rfl, hb10⟩; have HB10 := hd (bel HB9.o hb10); clear hb10))
      all_goals go_wp2
      all_goals go_ret
      all_goals exact ⟨rfl, HFd.o _ HB10.o⟩
  · have hb : (1048576 : Int) < (n : Int) := by omega
    go_wp2
    go_ret
    exact ⟨rfl, HBw.o _ HB3.o⟩
end Go.Proofs.YteckfdohgiddgaaGreatDoor
