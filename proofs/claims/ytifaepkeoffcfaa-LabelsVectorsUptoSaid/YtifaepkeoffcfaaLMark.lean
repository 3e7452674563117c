/- The walk of weirlaw16.mark. -/
import Derived.Test.YtifaepkeoffcfaaLLent
import Derived.Test.YtifaepkeoffcfaaBase4
namespace Go.Proofs.Ytifaepkeoffcfaa
open Go.RowKit
set_option linter.unusedVariables false
set_option linter.unusedSimpArgs false
def mkA (i : Nat) : ByteArray := ⟨[35, UInt8.ofNat i, UInt8.ofNat (i / 256)].toArray⟩
def mkB (k : Nat) : ByteArray := ⟨[35, UInt8.ofNat k].toArray⟩
theorem conv_at (W : World) (H k : Nat) (hH : W.heap.size = H) (bs : List UInt8) (C : Array Value) (hC : C.toList = cellsB bs) (hk : bs.length = k) (hm : k ≤ 1000) :
    (convert 40 9 (.slice (some ⟨H, 0, none⟩) k k)).run Try.prog (W.alloc (.cells C 5)) = .ok (.string ⟨bs.toArray⟩) (W.alloc (.cells C 5)) := by
  subst hH
  refine run_string_of _ 40 9 5 Try.underlying40 Try.underlying5 Try.underlying9 _ k bs (IsL.own (B := W.heap.size) (e := 5) ?_)
  have := World.ownsRow_lit (base := W.heap.size) (e := 5) (size := 1) W C k (Nat.le_refl _) (by unfold maxLen; omega) (by have := congrArg List.length hC; simp [cellsB] at this; omega)
  rw [hC] at this
  exact this
set_option maxRecDepth 100000 in
theorem mark_any (i k : Nat) (w : World) (hi : i ≤ 16777216) (hk : k ≤ 255) :
    Calls Try.prog 38 #[.int .i64 i, .int .i64 k] w fun e w' => e = .returned (.agg #[.string (mkA i), .string (mkB k)]) ∧ Below w.heap.size w w' := by
  obtain ⟨x1, hx1⟩ : ∃ x1, x1 = mkA i := ⟨_, rfl⟩
  obtain ⟨x2, hx2⟩ : ∃ x2, x2 = mkB k := ⟨_, rfl⟩
  have h1 : (convert 40 9 (.slice (some ⟨w.heap.size + 1, 0, none⟩) 3 3)).run Try.prog ((w.alloc (.cells #[.string ⟨#[]⟩, .string ⟨#[]⟩] 26)).alloc (.cells #[.int .u8 35, .int .u8 ((i : Int) % 256), .int .u8 ((i : Int) / 256 % 256)] 5)) = .ok (.string x1) ((w.alloc (.cells #[.string ⟨#[]⟩, .string ⟨#[]⟩] 26)).alloc (.cells #[.int .u8 35, .int .u8 ((i : Int) % 256), .int .u8 ((i : Int) / 256 % 256)] 5)) := by
    rw [hx1]
    refine conv_at _ _ 3 (by simp) [35, UInt8.ofNat i, UInt8.ofNat (i / 256)] _ ?_ rfl (by decide)
    simp [cellsB]
  have h2 : (convert 40 9 (.slice (some ⟨w.heap.size + 1 + 1, 0, none⟩) 2 2)).run Try.prog (((w.alloc (.cells #[.string ⟨#[]⟩, .string ⟨#[]⟩] 26)).alloc (.cells #[.int .u8 35, .int .u8 ((i : Int) % 256), .int .u8 ((i : Int) / 256 % 256)] 5)).alloc (.cells #[.int .u8 35, .int .u8 (k : Int)] 5)) = .ok (.string x2) (((w.alloc (.cells #[.string ⟨#[]⟩, .string ⟨#[]⟩] 26)).alloc (.cells #[.int .u8 35, .int .u8 ((i : Int) % 256), .int .u8 ((i : Int) / 256 % 256)] 5)).alloc (.cells #[.int .u8 35, .int .u8 (k : Int)] 5)) := by
    rw [hx2]
    refine conv_at _ _ 2 (by simp) [35, UInt8.ofNat k] _ ?_ rfl (by decide)
    simp [cellsB]; omega
  rw [← hx1, ← hx2]
  clear hx1 hx2
  go_enter Try.func38, Try.ntmps38
  go_wp2
  refine bodyPost_ret (v := .agg #[.string x1, .string x2]) (by simp [results, Try.results38, go_sem]) rfl ⟨rfl, ?_⟩
  exact (((Below.refl _ _).alloc (Nat.le_refl _) _).alloc (by simp) _).alloc (by simp; omega) _
end Go.Proofs.Ytifaepkeoffcfaa
