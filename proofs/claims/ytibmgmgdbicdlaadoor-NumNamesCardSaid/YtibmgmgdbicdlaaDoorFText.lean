/- text: the digits of a number (weirref02/show.go). -/
import Derived.Test.YtibmgmgdbicdlaaDoorFBst
import Derived.Test.YtibmgmgdbicdlaaDoorFShow
import Derived.Test.YtibmgmgdbicdlaaDoorBase4
namespace Go.Proofs.YtibmgmgdbicdlaaDoor
open Go.RowKit
set_option linter.unusedVariables false
set_option linter.unusedSimpArgs false
namespace FB
def txt (d : Nat) : List UInt8 := if d = 0 then [] else Lib.decDigits d
theorem txt_step {d : Nat} (h : 0 < d) : txt d = txt (d / 10) ++ [UInt8.ofNat (48 + d % 10)] := by
  unfold txt
  rw [if_neg (by omega)]
  by_cases c : d < 10
  · rw [if_pos (by omega), Lib.decDigits_one c, Nat.mod_eq_of_lt c]; rfl
  · rw [if_neg (by omega)]
    conv => lhs; rw [Lib.decDigits]
    rw [dif_neg c]
end FB
theorem isL_lit (w : World) (C : Array Value) (e : TypeId) (xs : List Value) (n : Nat) (hn : xs.length = n) (hC : C.toList = xs) : IsL 1 (w.alloc (.cells C e)) (.slice (some ⟨w.heap.size, 0, none⟩) n n) n xs := by
  refine ⟨by omega, _, _, rfl, fun k hk => ⟨_, _, rfl, ?_⟩⟩
  rw [Nat.zero_add, World.cell?_alloc_mark, ← Array.getElem?_toList, hC, List.getElem?_eq_getElem hk]
end Go.Proofs.YtibmgmgdbicdlaaDoor
