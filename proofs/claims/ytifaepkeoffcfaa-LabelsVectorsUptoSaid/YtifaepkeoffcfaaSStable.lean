/- slices.stableCmpFunc and SortStableFunc over elements, at this program. -/
import Derived.Test.YtifaepkeoffcfaaSIns
import Derived.Test.YtifaepkeoffcfaaSStab3
namespace Go.Proofs.Ytifaepkeoffcfaa
open Go.RowKit Go.Sort Go.Shelf Go.Lib
set_option linter.unusedVariables false
set_option linter.unusedSimpArgs false
set_option linter.unusedSectionVars false
variable {α : Type} [Inhabited α] {enc : α → List Value} {w0 : World} {B : Nat} {n c g : Nat} {cf : α → α → Int}
theorem mono0 {n a b : Nat} {d di dj : Array α} (hP : PermIn 0 n d di) (h : PermIn a b di dj) (hb : b ≤ n) (hs : di.size = n) : PermIn 0 n d dj :=
  permIn_trans _ _ _ _ _ hP (permIn_mono _ _ _ _ _ _ (Nat.zero_le _) hb (by omega) h)
set_option maxHeartbeats 4000000 in
set_option maxRecDepth 100000 in
theorem stable_any (K : SK enc w0 B 50 n c g) (hS : SWO (ltOf cf)) (HC : CmpOK enc cf w0 g) (d : Array α) (w : World) (h : SR enc w0 B 50 n c g d w) (hn : n ≤ 4398046510976) :
    Calls Try.prog 68 #[.slice (some ⟨g, 0, none⟩) n c, .int .i64 n, .func (.func 55) #[] #[]] w fun e w' => e = .returned (.tuple #[]) ∧ ∃ d', PermIn 0 n d d' ∧ SortedIn (ltOf cf) 0 n d' ∧ SR enc w0 B 50 n c g d' w' := by
  have S0 := hd h
  have hs0 := h.size
  have HC0 := hd HC
  have HSW := hd hS
  clear h HC hS
  go_enter Try.func68, Try.ntmps68
  go_wp2
  go_loopg [7, 8] n (fun kx s t wr => ∃ (a : Nat) (di : Array α), s = .int .i64 a ∧ t = .int .i64 ((a + 20 : Nat) : Int) ∧ a ≤ n ∧ n - a ≤ kx ∧ Hd (SR enc w0 B 50 n c g di wr) ∧ Hd (PermIn 0 n d di) ∧ Hd (St.Dn (ltOf cf) 20 a di))
  case atStart => exact ⟨0, d, rfl, rfl, Nat.zero_le _, by omega, S0, hd (permIn_refl _ _ _), hd (St.dn_zero _ _)⟩
  case round =>
    clear S0
    obtain ⟨a, di, rfl, rfl, han, hkx, HS, HP, HD⟩ := hrel
    by_cases hlt : a + 20 ≤ n
    · have hz : ((a + 20 : Nat) : Int) ≤ (n : Int) := by omega
      obtain ⟨b, hb⟩ : ∃ b, b = a + 20 := ⟨_, rfl⟩
      rw [← hb] at hz ⊢
      have HB := hd hb
      have b1 : a ≤ b := by omega
      have b2 : b ≤ n := by omega
      have b3 : a < b := by omega
      clear hb hlt
      go_wp2_with (go_at_call 80; refine (ins_any K HSW.o HC0.o di a b _ HS.o b1 b2 hn).mono ?_; rintro e w2 ⟨rfl, d1, hp1, hs1, hr1⟩; have HS1 := hd hr1; have HQ1 := hd (And.intro hp1 hs1); clear hr1 hp1 hs1)
      go_roundg (n - b)
      case measure => omega
      case rel =>
        have hb := HB.o
        refine ⟨b, d1, rfl, by rw [hb]; go_num, b2, Nat.le_refl _, HS1, hd (mono0 HP.o HQ1.o.1 b2 HS.o.size), hd ?_⟩
        rw [hb]
        have q := HQ1.o
        rw [hb] at q
        exact St.dn_step HD.o q.1 q.2
    · have hz : ¬ ((a + 20 : Nat) : Int) ≤ (n : Int) := by omega
      obtain ⟨b, hb⟩ : ∃ b, b = a + 20 := ⟨_, rfl⟩
      rw [← hb] at hz ⊢
      have HB := hd hb
      have HL := hd hlt
      clear hb hlt hkx
      go_wp2_with (go_at_call 80; refine (ins_any K HSW.o HC0.o di a n _ HS.o han (Nat.le_refl _) hn).mono ?_; rintro e w2 ⟨rfl, d1, hp1, hs1, hr1⟩; have HS1 := hd hr1; have HQ1 := hd (And.intro (mono0 HP.o hp1 (Nat.le_refl _) HS.o.size) (St.bk_end (show St.Dn (ltOf cf) 20 a d1 from by obtain ⟨t, ht, hh⟩ := HD.o; exact ⟨t, ht, fun q hq => by have h2 := Nat.mul_le_mul_right 20 (show q + 1 ≤ t by omega); exact St.sorted_out (hh q hq) hp1 (Or.inl (by omega))⟩) hs1 han (by have := HL.o; omega))); clear hr1 hp1 hs1)
      clear HS HP HD HB HL hz han
      go_loopg [6] (n) (fun kx s wr => ∃ (bs : Nat) (di : Array α), s = .int .i64 bs ∧ 0 < bs ∧ bs ≤ 2 * n + 20 ∧ n - bs ≤ kx ∧ Hd (SR enc w0 B 50 n c g di wr) ∧ Hd (PermIn 0 n d di) ∧ Hd (St.Bk (ltOf cf) bs n 0 di))
      case atStart => exact ⟨20, d1, rfl, by omega, by omega, by omega, HS1, hd HQ1.o.1, hd HQ1.o.2⟩
      case round =>
        clear HS1 HQ1
        obtain ⟨bs, di, rfl, hbs, hbn, hkx, HS, HP, HK⟩ := hrel
        by_cases hlt : bs < n
        · have hz : (bs : Int) < (n : Int) := by omega
          go_wp2
          go_loopg [7, 8] n (fun kx s t wr => ∃ (a : Nat) (dj : Array α), s = .int .i64 a ∧ t = .int .i64 ((a + 2 * bs : Nat) : Int) ∧ a ≤ n ∧ n - a ≤ kx ∧ Hd (SR enc w0 B 50 n c g dj wr) ∧ Hd (PermIn 0 n d dj) ∧ Hd (St.Dn (ltOf cf) (2 * bs) a dj) ∧ Hd (St.Bk (ltOf cf) bs n a dj))
          case atStart => exact ⟨0, di, rfl, by go_num, Nat.zero_le _, by omega, HS, HP, hd (St.dn_zero _ _), HK⟩
          case round =>
            clear HS HP HK
            obtain ⟨a, dj, rfl, rfl, han, hkx2, HS, HP, HD, HK⟩ := hrel
            obtain ⟨b, hb⟩ : ∃ b, b = a + 2 * bs := ⟨_, rfl⟩
            obtain ⟨m, hm⟩ : ∃ m, m = a + bs := ⟨_, rfl⟩
            have qm : (a : Int) + (bs : Int) = (m : Int) := by omega
            have m1 : a < m := by omega
            have m2 : m < b := by omega
            have HB := hd hb
            have HMM := hd hm
            rw [← hb]
            by_cases hle : b ≤ n
            · have hz2 : (b : Int) ≤ (n : Int) := by omega
              clear hb hm
              go_wp2_with (go_at_call 81; refine (merge_any K HSW.o HC0.o hn (b - a + 1) dj a m b _ (by omega) HS.o m1 m2 hle (by have q := St.bk_0 HK.o; rw [← HMM.o, Nat.min_eq_left (by omega)] at q; exact q) (by have q := St.bk_1 HK.o; rw [← HMM.o, ← HB.o, Nat.min_eq_left hle] at q; exact q)).mono ?_; rintro e w2 ⟨rfl, d1, hp1, hs1, hr1⟩; have HS1 := hd hr1; have HQ1 := hd (And.intro hp1 hs1); clear hr1 hp1 hs1)
              go_roundg (n - b)
              case measure => omega
              case rel =>
                have hb := HB.o
                have q := HQ1.o
                rw [hb] at q
                refine ⟨b, d1, rfl, by go_num, hle, Nat.le_refl _, HS1, hd (mono0 HP.o HQ1.o.1 hle HS.o.size), hd ?_, hd ?_⟩
                · rw [hb]; exact St.dn_step HD.o q.1 q.2
                · rw [hb]; exact St.bk_step HK.o q.1
            · have hz2 : ¬ (b : Int) ≤ (n : Int) := by omega
              by_cases hmn : m < n
              · have hz3 : (m : Int) < (n : Int) := by omega
                clear hb hm
                go_wp2_with (go_at_call 81; refine (merge_any K HSW.o HC0.o hn (n - a + 1) dj a m n _ (by omega) HS.o m1 hmn (Nat.le_refl _) (by have q := St.bk_0 HK.o; rw [← HMM.o, Nat.min_eq_left (by omega)] at q; exact q) (by have q := St.bk_1 HK.o; rw [← HMM.o, ← HB.o, Nat.min_eq_right (by omega)] at q; exact q)).mono ?_; rintro e w2 ⟨rfl, d1, hp1, hs1, hr1⟩; have HS1 := hd hr1; have HQ1 := hd (And.intro hp1 hs1); clear hr1 hp1 hs1)
                go_roundg (n - 2 * bs)
                case measure => omega
                case rel =>
                  have hb := HB.o
                  refine ⟨2 * bs, d1, by go_num, by omega, by omega, Nat.le_refl _, HS1, hd (mono0 HP.o HQ1.o.1 (Nat.le_refl _) HS.o.size), hd (St.bk_end (a := a) ?_ HQ1.o.2 han (by omega))⟩
                  obtain ⟨t, ht, hh⟩ := HD.o
                  exact ⟨t, ht, fun q hq => by have h2 := Nat.mul_le_mul_right (2 * bs) (show q + 1 ≤ t by omega); rw [Nat.succ_mul] at h2; exact St.sorted_out (hh q hq) HQ1.o.1 (Or.inl (by omega))⟩
              · have hz3 : ¬ (m : Int) < (n : Int) := by omega
                clear hb hm
                go_wp2
                go_roundg (n - 2 * bs)
                case measure => omega
                case rel =>
                  have hb := HB.o
                  have hm := HMM.o
                  exact ⟨2 * bs, dj, by go_num, by omega, by omega, Nat.le_refl _, HS, HP, hd (St.bk_end (a := a) HD.o (by have q := St.bk_0 HK.o; rw [Nat.min_eq_right (by omega)] at q; exact q) han (by omega))⟩
        · have hz : ¬ (bs : Int) < (n : Int) := by omega
          go_wp2
          go_end0
          refine ⟨rfl, di, HP.o, ?_, HS.o⟩
          have q := St.bk_0 HK.o
          rw [Nat.min_eq_right (by omega)] at q
          exact q
/-- slices.SortStableFunc: the row in order, its elements the same -/
theorem sortStable_any (K : SK enc w0 B 50 n c g) (hS : SWO (ltOf cf)) (HC : CmpOK enc cf w0 g) (d : Array α) (w : World) (h : SR enc w0 B 50 n c g d w) (hn : n ≤ 4398046510976) :
    Calls Try.prog 54 #[.slice (some ⟨g, 0, none⟩) n c, .func (.func 55) #[] #[]] w fun e w' => e = .returned (.tuple #[]) ∧ ∃ d', PermIn 0 n d d' ∧ SortedIn (ltOf cf) 0 n d' ∧ SR enc w0 B 50 n c g d' w' := by
  have HST := hd (stable_any K hS HC d w h hn)
  clear K hS HC h
  go_enter Try.func54, Try.ntmps54
  go_wp2_with (go_at_call 68; refine HST.o.mono ?_; rintro e w2 ⟨rfl, d1, hp1, hs1, hr1⟩; have HS1 := hd hr1; have HQ1 := hd (And.intro hp1 hs1); clear hr1 hp1 hs1)
  go_end0
  exact ⟨rfl, d1, HQ1.o.1, HQ1.o.2, HS1.o⟩
end Go.Proofs.Ytifaepkeoffcfaa
