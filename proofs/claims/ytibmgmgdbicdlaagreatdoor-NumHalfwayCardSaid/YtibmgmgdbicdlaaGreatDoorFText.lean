/- text: the digits of a number (weirref02/show.go). -/
import Derived.Test.YtibmgmgdbicdlaaGreatDoorFBst
import Derived.Test.YtibmgmgdbicdlaaGreatDoorFShow
import Derived.Test.YtibmgmgdbicdlaaGreatDoorBase4
namespace Go.Proofs.YtibmgmgdbicdlaaGreatDoor
open Go.RowKit
set_option linter.unusedVariables false
set_option linter.unusedSimpArgs false
namespace FB
def txt (d : Nat) : List UInt8 := if d = 0 then [] else Lib.decDigits d
theorem txt_step {d : Nat} (h : 0 < d) : txt d = txt (d / 10) ++ [UInt8.ofNat (48 + d % 10)] := by
  unfold txt
  rw [if_neg (by omega)]
  by_cases c : d < 10
  · rw [if_pos (by omega), Lib.decDigits_one c, Nat.mod_eq_of_lt c]; rfl
  · rw [if_neg (by omega)]
    conv => lhs; rw [Lib.decDigits]
    rw [dif_neg c]
end FB
theorem isL_lit (w : World) (C : Array Value) (e : TypeId) (xs : List Value) (n : Nat) (hn : xs.length = n) (hC : C.toList = xs) : IsL 1 (w.alloc (.cells C e)) (.slice (some ⟨w.heap.size, 0, none⟩) n n) n xs := by
  refine ⟨by omega, _, _, rfl, fun k hk => ⟨_, _, rfl, ?_⟩⟩
  rw [Nat.zero_add, World.cell?_alloc_mark, ← Array.getElem?_toList, hC, List.getElem?_eq_getElem hk]
set_option maxRecDepth 100000 in
theorem text_any (d : Nat) (w : World) (h0 : 0 < d) (hd64 : d < 18446744073709551616) :
    Calls Tryz.prog 137 #[.int .u64 (d : Int)] w fun e w' => e = .returned (.string ⟨(Lib.decDigits d).toArray⟩) ∧ Below w.heap.size w w' := by
  go_enter Tryz.func137, Tryz.ntmps137
  go_wp2
  go_loopw [0, 3] (fun x s wr => ∃ (c : Nat) (l : List UInt8), c ≤ d ∧ x = .int .u64 c ∧ s = .string ⟨l.toArray⟩ ∧ Hd (Below w.heap.size w wr) ∧ Hd (FB.txt c ++ l = Lib.decDigits d)) (fun x s wr => (intOf x).toNat)
  case atStart => exact ⟨d, [], Nat.le_refl _, rfl, rfl, hd (Below.refl _ _), hd (by unfold FB.txt; rw [if_neg (by omega), List.append_nil])⟩
  case round =>
    obtain ⟨c, l, hc, rfl, rfl, HB, HT⟩ := hrel
    by_cases hc0 : c = 0
    · subst hc0
      go_wp2
      go_ret
      have := HT.o
      unfold FB.txt at this
      rw [if_pos rfl, List.nil_append] at this
      subst this
      exact ⟨rfl, HB.o⟩
    · have hcp : (0 : Int) < (c : Int) := by omega
      have hcv : (convert 50 9 (.slice (some ⟨wr.heap.size, 0, none⟩) 1 1)).run Tryz.prog (wr.alloc (.cells #[.int .u8 (48 + (c : Int) % 10)] 5)) = .ok (.string ⟨[UInt8.ofNat (48 + c % 10)].toArray⟩) (wr.alloc (.cells #[.int .u8 (48 + (c : Int) % 10)] 5)) := by
        refine conv_u8 (m := 1) (isL_lit wr _ _ _ 1 rfl ?_)
        simp [cellsB]
        omega
      have HT2 : Hd (FB.txt (c / 10) ++ ([UInt8.ofNat (48 + c % 10)] ++ l) = Lib.decDigits d) := hd (by
        rw [← List.append_assoc, ← FB.txt_step (by omega)]
        exact HT.o)
      have HB2 := hd (HB.o.alloc HB.o.size (.cells #[.int .u8 (48 + (c : Int) % 10)] 5))
      have hll : l.length ≤ 20 := by
        have h1 := congrArg List.length HT.o
        rw [List.length_append, Lib.decDigits_length] at h1
        have := Lib.nDigits_le20 _ hd64
        omega
      generalize hB : UInt8.ofNat (48 + c % 10) = B at *
      go_wp2
      go_roundw
      case rel => exact ⟨c / 10, [B] ++ l, by omega, by go_num, congrArg Value.string (by apply ByteArray.ext; simp [ByteArray.data_append]), HB2, HT2⟩
      case measure => simp [intOf]; omega
end Go.Proofs.YtibmgmgdbicdlaaGreatDoor
