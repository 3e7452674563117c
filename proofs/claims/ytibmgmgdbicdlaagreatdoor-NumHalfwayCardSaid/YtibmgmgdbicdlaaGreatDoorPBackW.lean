/- NumBack: the law's walk. -/
import Derived.Test.YtibmgmgdbicdlaaGreatDoorPRd
import Derived.Test.YtibmgmgdbicdlaaGreatDoorPBackMath
import Derived.Test.YtibmgmgdbicdlaaGreatDoorPPlain
namespace Go.Proofs.YtibmgmgdbicdlaaGreatDoor
open Go.RowKit
set_option linter.unusedVariables false
set_option linter.unusedSimpArgs false
theorem same_nan (f g : Nat) (w : World) (hf : f < 18446744073709551616) (hg : g < 18446744073709551616) (nf : FO.isN f = true) (ng : FO.isN g = true) : Calls Tryz.prog 20 #[.float .f64 f, .float .f64 g] w fun e w' => e = .returned (.bool true) ∧ w = w' := by
  have q1 := mbits_run f
  have q2 := mbits_run g
  have a1 := (FO.self_eq hf).2
  have a2 := (FO.self_eq hg).2
  rw [nf] at a1
  rw [ng] at a2
  generalize he : ((f : Int) == (g : Int)) = e at *
  clear hf hg nf ng
  cases e
  all_goals
    go_enter Tryz.func20, Tryz.ntmps20
    go_wp2
    go_ret
    exact ⟨rfl, rfl⟩
/-- what the law asks of a text -/
structure BackF (f g : Nat) (S : ByteArray) (w : World) (b : Bool) : Prop where
  h1 : 1 ≤ S.size
  h2 : S.size ≤ 327
  pa : ∀ W, Below w.heap.size w W → Calls Tryz.prog 31 #[.string S] W fun e w' => Below W.heap.size W w' ∧ e = .returned (.tuple #[.float .f64 g, .bool true])
  rd : b = false → ∀ W, Below w.heap.size w W → Calls Tryz.prog 27 #[.string S] W fun e w' => Below W.heap.size W w' ∧ e = .returned (.tuple #[.float .f64 f, .int .i64 0])
  px : b = false → ∀ W, Calls Tryz.prog 29 #[.string S] W fun e w' => e = .returned (.int .i64 (S.size : Int)) ∧ W = w'
set_option maxRecDepth 100000 in
set_option maxHeartbeats 2000000 in
theorem back_core (f g : Nat) (w : World) (HA : Hd (Calls Tryz.prog 13 #[] w fun e w' => e = .returned (.bool true) ∧ Below w.heap.size w w'))
    (HSh : Hd (∀ W, Below w.heap.size w W → Calls Tryz.prog 25 #[.float .f64 f] W fun e w' => ∃ s, e = .returned (.string ⟨s.toArray⟩) ∧ FS.Shown f s ∧ Below W.heap.size W w'))
    (HSa : Hd (∀ W, Calls Tryz.prog 20 #[.float .f64 f, .float .f64 g] W fun e w' => e = .returned (.bool true) ∧ W = w'))
    (b1 b2 b3 : Bool) (hb1 : ((f : Int) / 9223372036854775808 == 1) = b1) (hb2 : (FloatKind.f64.format.order f f != some Ordering.eq) = b2) (hb3 : (FloatKind.f64.format.order f 9218868437227405311 == some Ordering.gt) = b3)
    (HF : Hd (∀ s : List UInt8, FS.Shown f s → BackF f g ⟨s.toArray⟩ w (b1 || b2 || b3))) :
    Calls Tryz.prog 6 #[.int .u64 (f : Int)] w fun e w' => e = .returned (.bool true) ∧ Below w.heap.size w w' := by
  have q1 := mfrom_run f
  have HS0 := hd (fun W => same0_any f W)
  have isE : ∀ S : ByteArray, 1 ≤ S.size → S.toList.isEmpty = false := fun S h => by
    rw [ByteArray.toList_eq, List.isEmpty_eq_false_iff]
    intro h
    have h2 : S.size = 0 := by rw [Lib.size_eq, h]; rfl
    omega
  have HE := hd isE
  clear isE
  cases b1 <;> cases b2 <;> cases b3
  all_goals
    go_enter Tryz.func6, Tryz.ntmps6
    go_wp2_with (first
      | (go_at_call 13; refine HA.o.mono ?_; rintro e wa ⟨rfl, h⟩; have B1 := hd h; clear h)
      | (go_at_call 25; refine (HSh.o _ B1.o).mono ?_; rintro e wb ⟨s, rfl, hs, h⟩; have B2 := hd (bel B1.o h); have HS := hd hs; clear h hs; revert HS))
    intro HS
    have F := HF.o s HS.o
    obtain ⟨S, hS⟩ : ∃ S : ByteArray, S = ⟨s.toArray⟩ := ⟨_, rfl⟩
    rw [← hS] at F ⊢
    have h1 := F.h1
    have h2 := F.h2
    have hne : ¬ S = ByteArray.empty := fun h => by subst h; exact absurd h1 (by decide)
    have hne2 := HE.o S h1
    have HPa := hd F.pa
    have HR := hd F.rd
    have HX := hd F.px
    clear HF HS F hS
  · have HR := hd (HR.o rfl)
    have HX := hd (HX.o rfl)
    go_wp2_with (first
      | (go_at_call 31; refine (HPa.o _ B2.o).mono ?_; rintro e wc ⟨h, rfl⟩; have B3 := hd (bel B2.o h); clear h)
      | (go_at_call 20; (with_reducible refine (HSa.o _).mono ?_); rintro e w' ⟨rfl, rfl⟩)
      | (go_at_call 27; refine (HR.o _ B3.o).mono ?_; rintro e wd ⟨h, rfl⟩; have B4 := hd (bel B3.o h); clear h)
      | (go_at_call 20; (with_reducible refine (HS0.o _).mono ?_); rintro e w' ⟨rfl, rfl⟩)
      | (go_at_call 29; refine (HX.o _).mono ?_; rintro e w' ⟨rfl, rfl⟩))
    go_ret
    exact ⟨rfl, B4.o⟩
  all_goals
    clear HR HX
    go_wp2_with (first
      | (go_at_call 31; refine (HPa.o _ B2.o).mono ?_; rintro e wc ⟨h, rfl⟩; have B3 := hd (bel B2.o h); clear h)
      | (go_at_call 20; (with_reducible refine (HSa.o _).mono ?_); rintro e w' ⟨rfl, rfl⟩))
    go_ret
    exact ⟨rfl, B3.o⟩
theorem wd_inf : Wd ⟨#[73, 110, 102]⟩ ⟨#[105, 110, 102]⟩ := ⟨rfl, fun i h h' => by
  have : i = 0 ∨ i = 1 ∨ i = 2 := by have : i < 3 := h; omega
  rcases this with rfl | rfl | rfl
  · exact (by decide : PF.low 73 = 105)
  · exact (by decide : PF.low 110 = 110)
  · exact (by decide : PF.low 102 = 102)⟩
theorem wd_nan : Wd ⟨#[78, 97, 78]⟩ ⟨#[110, 97, 110]⟩ := ⟨rfl, fun i h h' => by
  have : i = 0 ∨ i = 1 ∨ i = 2 := by have : i < 3 := h; omega
  rcases this with rfl | rfl | rfl
  · exact (by decide : PF.low 78 = 110)
  · exact (by decide : PF.low 97 = 97)
  · exact (by decide : PF.low 78 = 110)⟩
theorem word_yes (s v : ByteArray) (w : World) (hv : v.size ≤ 1000) (h : Wd s v) : Calls Tryz.prog 58 #[.string s, .string v] w fun e w' => e = .returned (.bool true) ∧ Below w.heap.size w w' :=
  (word_any s v w hv).mono (by
    rintro e w' ⟨hB, b, hb, rfl⟩
    rw [hb.2 h]
    exact ⟨rfl, hB⟩)
theorem minf_any (w : World) : Calls Tryz.prog 59 #[.int .i64 1] w fun e w' => e = .returned (.float .f64 9218868437227405312) ∧ w = w' := by
  have q : ∀ w, (callFunc 14 #[.int .u64 9218868437227405312]).run Tryz.prog w = .ok (.value (.float .f64 9218868437227405312)) w := mfrom_run 9218868437227405312
  go_enter Tryz.func59, Tryz.ntmps59
  go_wp2
  go_ret
  exact ⟨rfl, rfl⟩
theorem mnan_any (w : World) : Calls Tryz.prog 60 #[] w fun e w' => e = .returned (.float .f64 9221120237041090561) ∧ w = w' := by
  have q : ∀ w, (callFunc 14 #[.int .u64 9221120237041090561]).run Tryz.prog w = .ok (.value (.float .f64 9221120237041090561)) w := mfrom_run 9221120237041090561
  go_enter Tryz.func60, Tryz.ntmps60
  go_wp2
  go_ret
  exact ⟨rfl, rfl⟩
set_option maxRecDepth 100000 in
theorem read_inf (w : World) : Calls Tryz.prog 27 #[.string ⟨#[73, 110, 102]⟩] w fun e w' => e = .returned (.tuple #[.float .f64 9218868437227405312, .int .i64 0]) ∧ Below w.heap.size w w' := by
  have H := hd (fun W => word_yes ⟨#[73, 110, 102]⟩ ⟨#[105, 110, 102]⟩ W (by decide) wd_inf)
  go_enter Tryz.func27, Tryz.ntmps27
  go_wp2_with (first | (go_at_call 58; (with_reducible refine (H.o _).mono ?_); rintro e w1 ⟨rfl, h⟩; have B1 := hd h; clear h) | (go_at_call 59; refine (minf_any _).mono ?_; rintro e w' ⟨rfl, rfl⟩))
  go_ret2
  exact ⟨rfl, B1.o⟩
set_option maxRecDepth 100000 in
theorem read_nan (w : World) : Calls Tryz.prog 27 #[.string ⟨#[78, 97, 78]⟩] w fun e w' => e = .returned (.tuple #[.float .f64 9221120237041090561, .int .i64 0]) ∧ Below w.heap.size w w' := by
  have H0 := hd (fun W => word_first ⟨#[78, 97, 78]⟩ ⟨#[105, 110, 102]⟩ W (by decide) rfl (by decide))
  have H := hd (fun W => word_yes ⟨#[78, 97, 78]⟩ ⟨#[110, 97, 110]⟩ W (by decide) wd_nan)
  go_enter Tryz.func27, Tryz.ntmps27
  go_wp2_with (first | (go_at_call 58; (with_reducible refine (H0.o _).mono ?_); rintro e w1 ⟨rfl, h⟩; have B1 := hd h; clear h) | (go_at_call 58; (with_reducible refine (H.o _).mono ?_); rintro e w2 ⟨rfl, h⟩; have B2 := hd (bel B1.o h); clear h) | (go_at_call 60; refine (mnan_any _).mono ?_; rintro e w' ⟨rfl, rfl⟩))
  go_ret2
  exact ⟨rfl, B2.o⟩
set_option maxRecDepth 100000 in
theorem parse_nan (w : World) : Calls Tryz.prog 31 #[.string ⟨#[78, 97, 78]⟩] w fun e w' => Below w.heap.size w w' ∧ e = .returned (.tuple #[.float .f64 9221120237041090561, .bool true]) := by
  have b1 : ((⟨#[78, 97, 78]⟩ : ByteArray)[0]'(by decide)).toNat = 78 := rfl
  go_enter Tryz.func31, Tryz.ntmps31
  go_wp2_with (go_at_call 27; (with_reducible refine (read_nan _).mono ?_); rintro e w1 ⟨rfl, h⟩; have B1 := hd h; clear h)
  go_ret2
  exact ⟨B1.o, rfl⟩
set_option maxRecDepth 100000 in
theorem parse_pinf (w : World) : Calls Tryz.prog 31 #[.string ⟨#[43, 73, 110, 102]⟩] w fun e w' => Below w.heap.size w w' ∧ e = .returned (.tuple #[.float .f64 9218868437227405312, .bool true]) := by
  have b1 : ((⟨#[43, 73, 110, 102]⟩ : ByteArray)[0]'(by decide)).toNat = 43 := rfl
  have b2 : (⟨#[43, 73, 110, 102]⟩ : ByteArray).extract 1 4 = ⟨#[73, 110, 102]⟩ := by apply ByteArray.ext; rfl
  go_enter Tryz.func31, Tryz.ntmps31
  go_wp2_with (go_at_call 27; (with_reducible refine (read_inf _).mono ?_); rintro e w1 ⟨rfl, h⟩; have B1 := hd h; clear h)
  go_ret2
  exact ⟨B1.o, rfl⟩
set_option maxRecDepth 100000 in
theorem parse_minf (w : World) : Calls Tryz.prog 31 #[.string ⟨#[45, 73, 110, 102]⟩] w fun e w' => Below w.heap.size w w' ∧ e = .returned (.tuple #[.float .f64 18442240474082181120, .bool true]) := by
  have b1 : ((⟨#[45, 73, 110, 102]⟩ : ByteArray)[0]'(by decide)).toNat = 45 := rfl
  have b2 : (⟨#[45, 73, 110, 102]⟩ : ByteArray).extract 1 4 = ⟨#[73, 110, 102]⟩ := by apply ByteArray.ext; rfl
  have hn := neg_run 9218868437227405312 (by decide)
  go_enter Tryz.func31, Tryz.ntmps31
  go_wp2_with (go_at_call 27; (with_reducible refine (read_inf _).mono ?_); rintro e w1 ⟨rfl, h⟩; have B1 := hd h; clear h)
  go_ret2
  exact ⟨B1.o, rfl⟩
/-- the text of a float without its sign, and what is read of it -/
theorem shown_read (f : Nat) (l : List UInt8) (hx : FS.ex f ≠ 2047) (hf : f < 18446744073709551616) (h : FS.Shown f l) : ∃ T : List UInt8, l = sgn (FS.ng f) ++ T ∧ T ≠ [] ∧ PN.pfx T = T.length ∧ (∀ c t, T = c :: t → c.toNat ≠ 43 ∧ c.toNat ≠ 45) ∧
    ∀ W, Nms W → Calls Tryz.prog 27 #[.string ⟨T.toArray⟩] W fun e w' => Below W.heap.size W w' ∧ ∃ b, b = FO.rg f ∧ e = .returned (RdAns b) := by
  have hlen := h.len
  rcases h with ⟨a, _⟩ | ⟨_, hm, rfl⟩ | ⟨_, hm, d, t, hT, h10, rfl⟩
  · exact absurd a hx
  · refine ⟨[48], rfl, by simp, by decide, fun c t h => by injection h with h1 h2; subst h1; decide, fun W N => ?_⟩
    refine (read_dec ⟨#[48]⟩ W N (by decide) (by decide) (by decide +kernel) (by decide +kernel) [48] [] rfl (fun c hc => by rw [List.mem_singleton] at hc; subst hc; decide) (fun c t h => by cases h) 0 0 rfl (by decide)).mono ?_
    rintro e w' ⟨h1, b, h2, rfl⟩
    refine ⟨h1, b, ?_, rfl⟩
    rcases h2 with ⟨_, h3⟩ | ⟨h3, _⟩
    · rw [h3]
      unfold FO.rg
      unfold FS.mOf FS.ex FS.mt at hm
      split at hm <;> omega
    · exact absurd h3 (by decide)
  · have hd0 : 0 < d := by omega
    obtain ⟨hb1, hb2, hb3⟩ := hT.bd hx hm h10
    obtain ⟨j, v1, v2, v3, v4, v5⟩ := FS.plainT_val (t := t) (k := (Lib.nDigits d : Int) + t - 400) hd0 rfl
    generalize plainT (Lib.decDigits d) ((Lib.nDigits d : Int) + t - 400) = T at *
    have hT0 : T ≠ [] := fun h => by
      rw [h] at v1
      have h1 : d * 10 ^ j = 0 := v1.symm
      have : 0 < d * 10 ^ j := Nat.mul_pos hd0 (Nat.pow_pos (by decide))
      omega
    refine ⟨T, rfl, hT0, v3, fun c t h => ?_, fun W N => ?_⟩
    · have := v5 c (by rw [h]; simp); omega
    · have hsz : (⟨T.toArray⟩ : ByteArray).size = T.length := by simp [ByteArray.size]
      have hle : T.length ≤ 327 := by have := hlen.1; rw [List.length_append] at this; omega
      have hpos : 0 < T.length := by cases T with | nil => exact absurd rfl hT0 | cons c t => simp
      refine (read_dec ⟨T.toArray⟩ W N (by omega) (by omega) (by rw [hsz]; exact v3) v4 T [] (by simp) v5 (fun c t h => by cases h) d j v1 hb2).mono ?_
      rintro e w' ⟨h1, b, h2, rfl⟩
      refine ⟨h1, b, ?_, rfl⟩
      rw [v1] at h2
      rcases h2 with ⟨h3, _⟩ | ⟨_, h3⟩
      · have : 0 < d * 10 ^ j := Nat.mul_pos hd0 (Nat.pow_pos (by decide))
        omega
      · have hq : (t : Int) - 400 = PF.expOf [] - ((PF.mf T PF.ls0).b : Int) + (j : Nat) := by
          show _ = (0 : Int) - _ + _; omega
        have hrg : FS.ex (FO.rg f) = FS.ex f ∧ FS.mOf (FO.rg f) = FS.mOf f ∧ FS.eOf (FO.rg f) = FS.eOf f := by
          have e1 : FS.ex (FO.rg f) = FS.ex f := by unfold FS.ex FO.rg; omega
          have e2 : FS.mt (FO.rg f) = FS.mt f := by unfold FS.mt FO.rg; omega
          refine ⟨e1, ?_, ?_⟩
          · unfold FS.mOf; rw [e1, e2]
          · unfold FS.eOf; rw [e1]
        have hT2 : FS.Told (FO.rg f) d t := by
          unfold FS.Told FS.sOf at hT ⊢
          rw [hrg.2.1, hrg.2.2]; exact hT
        have R := FS.in_rnd (f := FO.rg f) (Nat.mod_lt _ (by decide)) (by rw [hrg.1]; exact hx) (by rw [hrg.2.1]; exact hm) hT2
        exact h3.ext (FS.X_pos _) (R.shift hq)
theorem numBack_walk (f : Nat) (w : World) (hf : f < 18446744073709551616) (N : Nms w) :
    Calls Tryz.prog 6 #[.int .u64 (f : Int)] w fun e w' => e = .returned (.bool true) ∧ Below w.heap.size w w' := by
  have HA := hd (alive_any w N.g N.t)
  have HSh := hd (fun W (hb : Below w.heap.size w W) => show_any f hf W (N.t.below hb))
  have hself := (FO.self_eq hf).2
  have hgt := FO.gt_eq hf (show 9218868437227405311 < 18446744073709551616 by decide)
  have hI : FS.INF = 9218868437227405312 := rfl
  by_cases hx : FS.ex f = 2047
  · by_cases hmt : FS.mt f = 0
    · -- an infinity
      have hn : FO.isN f = false := by
        cases c : FO.isN f
        · rfl
        · exact absurd hmt (FO.isN_iff.1 c).2
      by_cases hng : FS.ng f = true
      · have hf2 : f = 18442240474082181120 := by
          unfold FS.ng at hng; unfold FS.ex at hx; unfold FS.mt at hmt
          have := of_decide_eq_true hng
          omega
        subst hf2
        refine back_core 18442240474082181120 18442240474082181120 w HA HSh (hd (fun W => same0_any _ W)) true false false (by decide) (by rw [hself, hn]) (by decide +kernel) (hd (fun s hs => ?_))
        have e : s = [45, 73, 110, 102] := by
          rcases hs with ⟨_, h⟩ | ⟨h, _⟩ | ⟨h, _⟩
          · rw [if_pos hmt, if_pos hng] at h; exact h
          · exact absurd hx h
          · exact absurd hx h
        subst e
        exact ⟨by decide, by decide, fun W _ => parse_minf W, (fun h => by cases h), fun h => by cases h⟩
      · have hf2 : f = 9218868437227405312 := by
          unfold FS.ng at hng; unfold FS.ex at hx; unfold FS.mt at hmt
          have : ¬ 9223372036854775808 ≤ f := fun h => hng (decide_eq_true h)
          omega
        subst hf2
        refine back_core 9218868437227405312 9218868437227405312 w HA HSh (hd (fun W => same0_any _ W)) false false true (by decide) (by rw [hself, hn]) (by decide +kernel) (hd (fun s hs => ?_))
        have e : s = [43, 73, 110, 102] := by
          rcases hs with ⟨_, h⟩ | ⟨h, _⟩ | ⟨h, _⟩
          · rw [if_pos hmt, if_neg hng] at h; exact h
          · exact absurd hx h
          · exact absurd hx h
        subst e
        exact ⟨by decide, by decide, fun W _ => parse_pinf W, (fun h => by cases h), fun h => by cases h⟩
    · have hn : FO.isN f = true := FO.isN_iff.2 ⟨hx, hmt⟩
      refine back_core f 9221120237041090561 w HA HSh (hd (fun W => same_nan _ _ W hf (by decide) hn (by decide))) _ true _ rfl (by rw [hself, hn]) rfl (hd (fun s hs => ?_))
      have e : s = [78, 97, 78] := by
        rcases hs with ⟨_, h⟩ | ⟨h, _⟩ | ⟨h, _⟩
        · rw [if_neg hmt] at h; exact h
        · exact absurd hx h
        · exact absurd hx h
      subst e
      exact ⟨by decide, by decide, fun W _ => parse_nan W, (fun h => by simp at h), fun h => by simp at h⟩
  · have hn : FO.isN f = false := by
      cases c : FO.isN f
      · rfl
      · exact absurd (FO.isN_iff.1 c).1 hx
    have hrI : FO.rg f < FS.INF := by unfold FS.ex at hx; unfold FO.rg; omega
    refine back_core f f w HA HSh (hd (fun W => same0_any _ W)) _ false _ rfl (by rw [hself, hn]) rfl (hd (fun s hs => ?_))
    obtain ⟨T, hl, hT0, hp, hc, hR⟩ := shown_read f s hx hf hs
    have hlen := hs.len
    have hV : ∀ b, b = FO.rg f → b ≤ FS.INF := fun b h => by omega
    have hpos : 0 < T.length := by cases T with | nil => exact absurd rfl hT0 | cons c t => simp
    have hszT : (⟨T.toArray⟩ : ByteArray).size = T.length := by simp [ByteArray.size]
    have hsz : (⟨s.toArray⟩ : ByteArray).size = s.length := by simp [ByteArray.size]
    by_cases hng : FS.ng f = true
    · have h63 : 9223372036854775808 ≤ f := of_decide_eq_true hng
      have hs2 : s = 45 :: T := by rw [hl, hng]; rfl
      refine ⟨by omega, by omega, fun W hb => ?_, fun h => ?_, fun h => ?_⟩
      · refine (parse_neg ⟨s.toArray⟩ ⟨T.toArray⟩ W (by omega) (by omega) ?_ ?_ (fun b => b = FO.rg f) hV (hd (hR W (N.below hb)))).mono ?_
        · subst hs2; rfl
        · subst hs2
          apply ByteArray.ext
          rw [ByteArray.data_extract]
          apply Array.ext'
          simp [ByteArray.size]
        · rintro e w' ⟨h1, b, rfl, rfl⟩
          refine ⟨h1, ?_⟩
          unfold PsAns
          rw [if_neg (by omega), if_pos rfl, show FO.rg f + 9223372036854775808 = f by unfold FO.rg; omega]
      · have h1 : ((f : Int) / 9223372036854775808 == 1) = true := by rw [beq_iff_eq]; omega
        rw [h1] at h; simp at h
      · have h1 : ((f : Int) / 9223372036854775808 == 1) = true := by rw [beq_iff_eq]; omega
        rw [h1] at h; simp at h
    · have h63 : ¬ 9223372036854775808 ≤ f := fun h => hng (decide_eq_true h)
      have hng2 : FS.ng f = false := by simpa using hng
      have hs2 : s = T := by rw [hl, hng2]; rfl
      subst hs2
      have hrf : FO.rg f = f := by unfold FO.rg; omega
      have hr1 : ∀ b, b = FO.rg f → RdAns b = .tuple #[.float .f64 f, .int .i64 0] := fun b h => by unfold RdAns; rw [if_neg (by omega), h, hrf]
      refine ⟨by omega, by omega, fun W hb => ?_, fun h W hb => ?_, fun h W => ?_⟩
      · have h00 : 0 < (⟨s.toArray⟩ : ByteArray).size := by omega
        refine (parse_pos ⟨s.toArray⟩ W (by omega) h00 ?_ (fun b => b = FO.rg f) hV (hd (hR W (N.below hb)))).mono ?_
        · cases s with
          | nil => exact absurd rfl hT0
          | cons c t => exact hc c t rfl
        · rintro e w' ⟨h1, b, rfl, rfl⟩
          refine ⟨h1, ?_⟩
          unfold PsAns
          rw [if_neg (by omega), if_neg (by decide), hrf]
      · refine (hR W (N.below hb)).mono ?_
        rintro e w' ⟨h1, b, h2, rfl⟩
        exact ⟨h1, by rw [hr1 b h2]⟩
      · have h1 := prefix_any ⟨s.toArray⟩ W (by omega)
        rw [show (⟨s.toArray⟩ : ByteArray).data.toList = s by simp, hp] at h1
        rw [hsz]
        exact h1
end Go.Proofs.YtibmgmgdbicdlaaGreatDoor
