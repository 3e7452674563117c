/- weirlaw02.decimal and power. -/
import Derived.Test.YtibmgmgdbicdlaaGreatDoorPBackMath
import Derived.Test.YtibmgmgdbicdlaaGreatDoorBase4
import Derived.Deep.RegionLaw
namespace Go.Proofs.YtibmgmgdbicdlaaGreatDoor
open Go.RowKit
set_option linter.unusedVariables false
set_option linter.unusedSimpArgs false
theorem isL_lit1 (w : World) (C : Array Value) (e : TypeId) (xs : List Value) (n : Nat) (hn : xs.length = n) (hC : C.toList = xs) : IsL 1 (w.alloc (.cells C e)) (.slice (some ⟨w.heap.size, 0, none⟩) n n) n xs := by
  refine ⟨by omega, _, _, rfl, fun k hk => ⟨_, _, rfl, ?_⟩⟩
  rw [Nat.zero_add, World.cell?_alloc_mark, ← Array.getElem?_toList, hC, List.getElem?_eq_getElem hk]
theorem byte_lit (w : World) (c : Nat) (B : UInt8) (hB : UInt8.ofNat c = B) (hc : c < 256) (e : TypeId) : IsL 1 (w.alloc (.cells #[.int .u8 (c : Int)] e)) (.slice (some ⟨w.heap.size, 0, none⟩) 1 1) 1 (cellsB [B]) := by
  subst hB
  refine isL_lit1 w _ e _ 1 rfl ?_
  simp [cellsB]
  omega
theorem conv_byte (w : World) (c : Nat) (B : UInt8) (hB : UInt8.ofNat c = B) (hc : c < 256) : (convert 50 9 (.slice (some ⟨w.heap.size, 0, none⟩) 1 1)).run Tryz.prog (w.alloc (.cells #[.int .u8 (c : Int)] 5)) = .ok (.string ⟨[B].toArray⟩) (w.alloc (.cells #[.int .u8 (c : Int)] 5)) :=
  conv_u8 (m := 1) (byte_lit w c B hB hc _)
set_option maxRecDepth 100000 in
theorem decimal_one (n : Nat) (h : n < 10) (w : World) : Calls Tryz.prog 37 #[.int .u64 (n : Int)] w fun e w' => e = .returned (.string ⟨(Lib.decDigits n).toArray⟩) ∧ Below w.heap.size w w' := by
  have hn : (n : Int) < 10 := by omega
  obtain ⟨B, hB⟩ : ∃ B, UInt8.ofNat (48 + n) = B := ⟨_, rfl⟩
  have hcv := conv_byte w (48 + n) B hB (by omega)
  rw [show ((48 + n : Nat) : Int) = 48 + (n : Int) by omega] at hcv
  have e := hd (Lib.decDigits_one h)
  rw [hB] at e
  clear hB
  go_enter Tryz.func37, Tryz.ntmps37
  go_wp2
  go_ret
  rw [e.o]
  exact ⟨rfl, (Below.refl _ _).alloc (Nat.le_refl _) _⟩
set_option maxRecDepth 100000 in
set_option maxHeartbeats 1000000 in
theorem decimal_step (n : Nat) (h : 10 ≤ n) (hn : n < 18446744073709551616) (w : World) (IH : Hd (∀ W, Calls Tryz.prog 37 #[.int .u64 ((n / 10 : Nat) : Int)] W fun e w' => e = .returned (.string ⟨(Lib.decDigits (n / 10)).toArray⟩) ∧ Below W.heap.size W w')) :
    Calls Tryz.prog 37 #[.int .u64 (n : Int)] w fun e w' => e = .returned (.string ⟨(Lib.decDigits n).toArray⟩) ∧ Below w.heap.size w w' := by
  have hnI : ¬ (n : Int) < 10 := by omega
  have hq : (n : Int) / 10 = ((n / 10 : Nat) : Int) := by omega
  have hr : 48 + (n : Int) % 10 = ((48 + n % 10 : Nat) : Int) := by omega
  have hr2 : 48 + n % 10 < 256 := by omega
  have w1 : IntKind.u64.wrap ((n / 10 : Nat) : Int) = ((n / 10 : Nat) : Int) := by rw [IntKind.wrap_u64]; omega
  have w2 : IntKind.u64.wrap (48 + (n : Int).tmod 10) = ((48 + n % 10 : Nat) : Int) := by rw [Int.tmod_eq_emod_of_nonneg (by omega), IntKind.wrap_u64]; omega
  have w3 : IntKind.u8.wrap ((48 + n % 10 : Nat) : Int) = ((48 + n % 10 : Nat) : Int) := by rw [IntKind.wrap_u8]; omega
  obtain ⟨B, hB⟩ : ∃ B, UInt8.ofNat (48 + n % 10) = B := ⟨_, rfl⟩
  have HC := hd (fun W => conv_byte W (48 + n % 10) B hB hr2)
  have HC2 := hd (fun (W : World) (v : Value) (hl : IsL 1 W v 1 (cellsB [B])) => conv_u8 (m := 1) hl)
  have HL := hd (fun (W : World) => byte_lit W (48 + n % 10) B hB hr2 5)
  have e : Hd (Lib.decDigits n = Lib.decDigits (n / 10) ++ [B]) := hd (by
    conv => lhs; rw [Lib.decDigits]
    rw [dif_neg (by omega), hB])
  clear hB
  have hlen : (Lib.decDigits (n / 10)).length ≤ 20 := by rw [Lib.decDigits_length]; exact Lib.nDigits_le20 _ (by omega)
  have hcat : ¬ 9223372036854775807 < (Lib.decDigits (n / 10)).length + 1 := by omega
  generalize Lib.decDigits (n / 10) = l at *
  generalize 48 + n % 10 = c at *
  generalize n / 10 = q at *
  go_enter Tryz.func37, Tryz.ntmps37
  go_wp2
  have c1 : (convert 50 9 (.slice (some ⟨w.heap.size, 0, none⟩) 1 1)).run Tryz.prog (w.alloc (.cells #[.int .u8 (c : Int)] 5)).drew = .ok (.string ⟨[B].toArray⟩) (w.alloc (.cells #[.int .u8 (c : Int)] 5)).drew := HC.o w.drew
  clear hlen
  go_region_law (go_simp; go_at_call 37; (with_reducible refine (IH.o _).mono ?_); rintro e w2 ⟨rfl, hb⟩; have hb2 := hd hb; have c2 := HC.o w2; (try have c3 := HC2.o w2 (.slice (some ⟨w.heap.size, 0, none⟩) 1 1) (IsL.below (w := w.drew.alloc (.cells #[.int .u8 (c : Int)] 5)) (HL.o w.drew) hb)); clear hb)
  all_goals
    go_wp2
    go_ret
    rw [e.o]
    have hsc : ((⟨l.toArray⟩ : ByteArray) ++ ⟨#[B]⟩) = ⟨(l ++ [B]).toArray⟩ := by apply ByteArray.ext; simp [ByteArray.data_append]
    refine ⟨congrArg (fun s => Ending.returned (Value.string s)) hsc, ?_⟩
    first
      | exact ((Below.drew (Below.refl _ w)).trans hb2.o).alloc hb2.o.size _
      | exact (((Below.refl _ w).alloc (Nat.le_refl _) _).drew).trans (hb2.o.mono (by simp))
theorem decimal_any (n : Nat) : n < 18446744073709551616 → ∀ w : World, Calls Tryz.prog 37 #[.int .u64 (n : Int)] w fun e w' => e = .returned (.string ⟨(Lib.decDigits n).toArray⟩) ∧ Below w.heap.size w w' := by
  induction n using Nat.strongRecOn with
  | _ n ih =>
    intro hn w
    by_cases c : n < 10
    · exact decimal_one n c w
    · exact decimal_step n (by omega) hn w (hd (ih (n / 10) (by omega) (by omega)))
def PwT (d : Nat) (ng : Bool) (j : Nat) : List UInt8 := Lib.decDigits d ++ 101 :: ((if ng then [45] else []) ++ Lib.decDigits j)
set_option maxRecDepth 100000 in
theorem power_pos (d j : Nat) (hd64 : d < 18446744073709551616) (hj : j ≤ 1000) (w : World) : Calls Tryz.prog 34 #[.int .u64 (d : Int), .int .i64 (j : Int)] w fun e w' => e = .returned (.string ⟨(PwT d false j).toArray⟩) ∧ Below w.heap.size w w' := by
  have H1 := hd (decimal_any d hd64)
  have H2 := hd (decimal_any j (by omega))
  have l1 : (Lib.decDigits d).length ≤ 20 := by rw [Lib.decDigits_length]; exact Lib.nDigits_le20 _ hd64
  have l2 : (Lib.decDigits j).length ≤ 20 := by rw [Lib.decDigits_length]; exact Lib.nDigits_le20 _ (by omega)
  have c1 : ¬ 9223372036854775807 < (Lib.decDigits d).length + 1 := by omega
  have c2 : ¬ 9223372036854775807 < (Lib.decDigits d).length + 1 + (Lib.decDigits j).length := by omega
  have hjI : ¬ (j : Int) < 0 := by omega
  have e : Hd (PwT d false j = Lib.decDigits d ++ 101 :: Lib.decDigits j) := hd rfl
  generalize PwT d false j = T at *
  generalize Lib.decDigits d = a at *
  generalize Lib.decDigits j = b at *
  clear hd64 l1 l2
  go_enter Tryz.func34, Tryz.ntmps34
  go_wp2_with (first
    | (go_at_call 37; (with_reducible refine (H1.o _).mono ?_); rintro x w1 ⟨rfl, h⟩; have B1 := hd h; clear h)
    | (go_at_call 37; (with_reducible refine (H2.o _).mono ?_); rintro x w2 ⟨rfl, h⟩; have B2 := hd (bel B1.o h); clear h))
  go_ret
  have hsc : ((⟨a.toArray⟩ : ByteArray) ++ ⟨#[101]⟩ ++ ⟨b.toArray⟩) = ⟨T.toArray⟩ := by rw [e.o]; apply ByteArray.ext; simp [ByteArray.data_append]
  exact ⟨congrArg (fun s => Ending.returned (Value.string s)) hsc, B2.o⟩
set_option maxRecDepth 100000 in
theorem power_neg (d j : Nat) (hd64 : d < 18446744073709551616) (hj0 : 0 < j) (hj : j ≤ 1000) (w : World) : Calls Tryz.prog 34 #[.int .u64 (d : Int), .int .i64 (-(j : Int))] w fun e w' => e = .returned (.string ⟨(PwT d true j).toArray⟩) ∧ Below w.heap.size w w' := by
  have H1 := hd (decimal_any d hd64)
  have H2 := hd (decimal_any j (by omega))
  have l1 : (Lib.decDigits d).length ≤ 20 := by rw [Lib.decDigits_length]; exact Lib.nDigits_le20 _ hd64
  have l2 : (Lib.decDigits j).length ≤ 20 := by rw [Lib.decDigits_length]; exact Lib.nDigits_le20 _ (by omega)
  have c1 : ¬ 9223372036854775807 < (Lib.decDigits d).length + 2 := by omega
  have c2 : ¬ 9223372036854775807 < (Lib.decDigits d).length + 2 + (Lib.decDigits j).length := by omega
  have hjI : -(j : Int) < 0 := by omega
  have e : Hd (PwT d true j = Lib.decDigits d ++ 101 :: 45 :: Lib.decDigits j) := hd rfl
  generalize PwT d true j = T at *
  generalize Lib.decDigits d = a at *
  generalize Lib.decDigits j = b at *
  clear hd64 l1 l2
  go_enter Tryz.func34, Tryz.ntmps34
  go_wp2_with (first
    | (go_at_call 37; (with_reducible refine (H1.o _).mono ?_); rintro x w1 ⟨rfl, h⟩; have B1 := hd h; clear h)
    | (go_at_call 37; (with_reducible refine (H2.o _).mono ?_); rintro x w2 ⟨rfl, h⟩; have B2 := hd (bel B1.o h); clear h))
  go_ret
  have hsc : ((⟨a.toArray⟩ : ByteArray) ++ ⟨#[101, 45]⟩ ++ ⟨b.toArray⟩) = ⟨T.toArray⟩ := by rw [e.o]; apply ByteArray.ext; simp [ByteArray.data_append]
  exact ⟨congrArg (fun s => Ending.returned (Value.string s)) hsc, B2.o⟩
end Go.Proofs.YtibmgmgdbicdlaaGreatDoor
