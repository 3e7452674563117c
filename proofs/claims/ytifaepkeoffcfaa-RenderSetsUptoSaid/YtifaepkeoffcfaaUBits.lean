/- Plain law: the bit operations that write a rune's form. -/
import Derived.Test.YtifaepkeoffcfaaBase2
import Derived.Laws.BitsAllLaws
import Derived.Laws.BitsLemmas
namespace Go.Proofs.Ytifaepkeoffcfaa
theorem ofInt_i32 (a : Nat) (ha : a < 2147483648) : (BitVec.ofInt 32 (a : Int)).toNat = a := by
  rw [BitVec.ofInt_natCast, BitVec.toNat_ofNat]; exact Nat.mod_eq_of_lt (by omega)
theorem i32_and_nat (a b : Nat) (ha : a < 2147483648) (hb : b < 2147483648) : bits .and .i32 (a : Int) (b : Int) = ((a &&& b : Nat) : Int) := by
  have hx : a &&& b < 2 ^ 31 := Nat.and_lt_two_pow _ (by omega)
  show IntKind.i32.wrap ((BitVec.ofInt 32 (a : Int) &&& BitVec.ofInt 32 (b : Int)).toNat : Int) = _
  rw [BitVec.toNat_and, ofInt_i32 a ha, ofInt_i32 b hb]
  rw [IntKind.wrap_i32]
  omega
theorem and63 (r : Int) (h0 : 0 ≤ r) (h1 : r ≤ 2147483647) : bits .and .i32 r 63 = r % 64 := by
  obtain ⟨n, rfl⟩ := Int.eq_ofNat_of_zero_le h0
  have h := i32_and_nat n 63 (by omega) (by omega)
  have h2 : n &&& 63 = n % 64 := Nat.and_two_pow_sub_one_eq_mod n 6
  rw [h2] at h
  exact h.trans (by omega)
theorem or_all : ∀ x : Nat, x < 64 → bits .or .u8 128 (x : Int) = 128 + x ∧ (x < 32 → bits .or .u8 192 (x : Int) = 192 + x) ∧ (x < 16 → bits .or .u8 224 (x : Int) = 224 + x) ∧ (x < 8 → bits .or .u8 240 (x : Int) = 240 + x) := by decide +kernel
theorem or128 (x : Int) (h0 : 0 ≤ x) (h1 : x < 64) : bits .or .u8 128 x = 128 + x := by
  obtain ⟨n, rfl⟩ := Int.eq_ofNat_of_zero_le h0
  exact (or_all n (by omega)).1
theorem or192 (x : Int) (h0 : 0 ≤ x) (h1 : x < 32) : bits .or .u8 192 x = 192 + x := by
  obtain ⟨n, rfl⟩ := Int.eq_ofNat_of_zero_le h0
  exact (or_all n (by omega)).2.1 (by omega)
theorem or224 (x : Int) (h0 : 0 ≤ x) (h1 : x < 16) : bits .or .u8 224 x = 224 + x := by
  obtain ⟨n, rfl⟩ := Int.eq_ofNat_of_zero_le h0
  exact (or_all n (by omega)).2.2.1 (by omega)
theorem or240 (x : Int) (h0 : 0 ≤ x) (h1 : x < 8) : bits .or .u8 240 x = 240 + x := by
  obtain ⟨n, rfl⟩ := Int.eq_ofNat_of_zero_le h0
  exact (or_all n (by omega)).2.2.2 (by omega)
end Go.Proofs.Ytifaepkeoffcfaa
