/- shortest of the reference (weirref02/show.go). -/
import Derived.Test.YtcbggkdginfakaaDoorFDG
import Derived.Test.YtcbggkdginfakaaDoorFParts
namespace Go.Proofs.YtcbggkdginfakaaDoor
open Go.RowKit
set_option linter.unusedVariables false
set_option linter.unusedSimpArgs false
theorem nv_lit (w : World) (g n : Nat) (x : Int) (e : TypeId) (hg : g = w.heap.size) (hx : x = n) (h0 : 0 < n) (hn : n < 4294967296) : NV (w.alloc (.cells #[.int .u32 x] e)) (.slice (some ⟨g, 0, none⟩) 1 1) n := by
  subst hg hx
  exact ⟨[n], isN_lit w _ _ [n] rfl (FB.W.one hn), fun _ => by simpa using (by omega : n ≠ 0), by simp [FB.val]⟩
theorem NV.al {w : World} {v : Value} {N : Nat} {ob : Obj} (h : NV w v N) : NV (w.alloc ob) v N := h.below ((Below.refl _ _).alloc (Nat.le_refl _) _)
theorem NV.as {w : World} {v : Value} {N M : Nat} (h : NV w v N) (e : N = M) : NV w v M := e ▸ h
theorem FB.lt11 : FB.Lt 1 1 := by unfold FB.Lt; decide
theorem FB.lt12 : FB.Lt 1 2 := by unfold FB.Lt; decide
theorem FB.lt14 : FB.Lt 1 (1 * 2 ^ 2) := by unfold FB.Lt; decide
theorem top_bd {t j m : Nat} (h : t * 2 ^ j ≤ m) (hm : m < 9007199254740992) (ht : 2 ≤ t) : j + 1 ≤ 53 := by
  have h1 : 2 * 2 ^ j ≤ t * 2 ^ j := Nat.mul_le_mul_right _ ht
  have h2 : 2 ^ (j + 1) < 2 ^ 53 := by rw [Nat.pow_succ, Nat.mul_comm]; exact Nat.lt_of_le_of_lt (Nat.le_trans h1 h) hm
  have := (Nat.pow_lt_pow_iff_right (show 1 < 2 by decide)).1 h2
  omega
theorem top_step {t j m : Nat} (h : t * 2 ^ j ≤ m) : t / 2 * 2 ^ (j + 1) ≤ m := by
  rw [Nat.pow_succ, Nat.mul_comm (2 ^ j), ← Nat.mul_assoc]
  exact Nat.le_trans (Nat.mul_le_mul_right _ (Nat.div_mul_le_self t 2)) h
theorem top_le {t j m : Nat} (h : t * 2 ^ j ≤ m) : t ≤ m := Nat.le_trans (Nat.le_mul_of_pos_right _ (Nat.pow_pos (by decide))) h
theorem neg0 (E : Nat) : (-(E : Int)).toNat = 0 := by omega
theorem e_shN_pos (m E : Nat) : m * 2 ^ 2 * 2 ^ E = FS.shN m (E : Int) := rfl
theorem e_shD_pos (E : Nat) : 1 * 2 ^ 2 = FS.shD (E : Int) := by unfold FS.shD; rw [neg0]
theorem e_und_pos (s E : Nat) : s * 2 ^ E = s * 2 ^ (E : Int).toNat := rfl
theorem e_shN_neg (m E : Nat) : m * 2 ^ 2 = FS.shN m (-(E : Int)) := by unfold FS.shN; rw [neg0]; omega
theorem e_shD_neg (E : Nat) : 1 * 2 ^ 2 * 2 ^ E = FS.shD (-(E : Int)) := by unfold FS.shD; rw [Int.neg_neg]; rfl
theorem e_und_neg (s E : Nat) : s = s * 2 ^ (-(E : Int)).toNat := by rw [neg0]; omega
theorem e_ten0 (x K : Nat) : x = x * 10 ^ (-(K : Int)).toNat := by rw [neg0]; omega
theorem e_ten0' (x K : Nat) : x = x * 10 ^ (-(K : Int)).toNat := e_ten0 x K
theorem e_tenN (x K : Nat) : x * 10 ^ K = x * 10 ^ (- -(K : Int)).toNat := by rw [Int.neg_neg]; rfl
theorem guess_bd {x : Int} (h1 : -1074 ≤ x) (h2 : x ≤ 1024) : -4000 ≤ (x * 30103).tdiv 100000 ∧ (x * 30103).tdiv 100000 ≤ 4000 := by
  rcases Int.lt_or_le x 0 with c | c
  · have e : x * 30103 = -((-x) * 30103) := by omega
    rw [e, Int.neg_tdiv, Int.tdiv_eq_ediv_of_nonneg (by omega)]
    omega
  · rw [Int.tdiv_eq_ediv_of_nonneg (by omega)]
    omega
namespace FS
def ShtAns (ev : Bool) (m : Nat) (e : Int) (s : Nat) (x : Ending) : Prop := ∃ k', Dug ev (4 * m * uq e - s * uq e) (4 * m * uq e + 2 * uq e) (4 * m * uq e) k' x
end FS
end Go.Proofs.YtcbggkdginfakaaDoor
