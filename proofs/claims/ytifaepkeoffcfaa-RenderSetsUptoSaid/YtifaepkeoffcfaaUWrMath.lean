/- Plain law: what Quote and Json write, byte by byte and rune by rune. -/
import Derived.Test.YtifaepkeoffcfaaUUnqMath
import Derived.Test.YtifaepkeoffcfaaUJoinMath
namespace Go.Proofs.Ytifaepkeoffcfaa.U
open Go
def hxN (i : Nat) : Nat := if i < 10 then 48 + i else 87 + i
/-- the first of two, by the second; 0: none -/
def backL : List UInt8 → Nat → Nat
  | a :: b :: r, c => if b.toNat = c then a.toNat else backL r c
  | _, _ => 0
/-- how a byte is written -/
def wrB (list head : List UInt8) (del : Bool) (c : UInt8) : List UInt8 :=
  if backL list c.toNat ≠ 0 then [92, UInt8.ofNat (backL list c.toNat)]
  else if c.toNat < 32 ∨ (del = true ∧ c.toNat = 127) then head ++ [UInt8.ofNat (hxN (c.toNat / 16)), UInt8.ofNat (hxN (c.toNat % 16))]
  else [c]
def listQ : List UInt8 := [34, 34, 92, 92, 97, 7, 98, 8, 116, 9, 110, 10, 118, 11, 102, 12, 114, 13]
def listJ : List UInt8 := [34, 34, 92, 92, 98, 8, 116, 9, 110, 10, 102, 12, 114, 13]
def wrQ : UInt8 → List UInt8 := wrB listQ [92, 120] true
def wrJ : UInt8 → List UInt8 := wrB listJ [92, 117, 48, 48] false
def letQ : List UInt8 := [97, 98, 116, 110, 118, 102, 114]
def letJ : List UInt8 := [98, 116, 110, 46, 102, 114]
theorem wrQ_back : ∀ c : Nat, c < 256 → (c = 34 ∨ c = 92) → wrQ (UInt8.ofNat c) = [92, UInt8.ofNat c] := by decide +kernel
theorem wrQ_let : ∀ c : Nat, c < 256 → (7 ≤ c ∧ c ≤ 13) → wrQ (UInt8.ofNat c) = [92, letQ.getD (c - 7) 0] := by decide +kernel
theorem wrQ_hex : ∀ c : Nat, c < 256 → ((c < 32 ∨ c = 127) ∧ ¬ (7 ≤ c ∧ c ≤ 13)) → wrQ (UInt8.ofNat c) = [92, 120, UInt8.ofNat (hxN (c / 16)), UInt8.ofNat (hxN (c % 16))] := by decide +kernel
theorem wrQ_self : ∀ c : Nat, c < 256 → (32 ≤ c ∧ c ≠ 127 ∧ c ≠ 34 ∧ c ≠ 92) → wrQ (UInt8.ofNat c) = [UInt8.ofNat c] := by decide +kernel
theorem wrJ_back : ∀ c : Nat, c < 256 → (c = 34 ∨ c = 92) → wrJ (UInt8.ofNat c) = [92, UInt8.ofNat c] := by decide +kernel
theorem wrJ_let : ∀ c : Nat, c < 256 → (8 ≤ c ∧ c ≤ 13 ∧ c ≠ 11) → wrJ (UInt8.ofNat c) = [92, letJ.getD (c - 8) 0] := by decide +kernel
theorem wrJ_hex : ∀ c : Nat, c < 256 → (c < 32 ∧ ¬ (8 ≤ c ∧ c ≤ 13 ∧ c ≠ 11)) → wrJ (UInt8.ofNat c) = [92, 117, 48, 48, UInt8.ofNat (hxN (c / 16)), UInt8.ofNat (hxN (c % 16))] := by decide +kernel
theorem wrJ_self : ∀ c : Nat, c < 256 → (32 ≤ c ∧ c ≠ 34 ∧ c ≠ 92) → wrJ (UInt8.ofNat c) = [UInt8.ofNat c] := by decide +kernel
theorem wrQ_len : ∀ c : Nat, c < 256 → (wrQ (UInt8.ofNat c)).length ≤ 6 := by decide +kernel
theorem wrJ_len : ∀ c : Nat, c < 256 → (wrJ (UInt8.ofNat c)).length ≤ 6 := by decide +kernel

/-- the text as it is written, between quotes -/
def wrS (f : UInt8 → List UInt8) (s : ByteArray) : List UInt8 × Int := if valid s then (34 :: s.data.toList.flatMap f ++ [34], 0) else ([], 4)

theorem flat_self (f : UInt8 → List UInt8) (hf : ∀ c : UInt8, 128 ≤ c.toNat → f c = [c]) : ∀ l : List UInt8, (∀ c ∈ l, 128 ≤ c.toNat) → l.flatMap f = l
  | [], _ => rfl
  | c :: l, h => by
    rw [List.flatMap_cons, hf c (h c (by simp)), flat_self f hf l (fun x hx => h x (by simp [hx]))]
    rfl
theorem take_rune (s : ByteArray) (p : Nat) (h : p < s.size) (hg : bad s p = false) : s.data.toList.take (p + (Utf8.decode s p).2) = s.data.toList.take p ++ (Utf8.encode (run s p : Int)).toList := by
  have := good_form s p h hg
  rw [Lib.extract_toList, Nat.add_sub_cancel_left] at this
  rw [← this, List.take_add]
theorem enc_high (v : Nat) (hv : Utf8.valid (v : Int) = true) (h : 128 ≤ v) : ∀ c ∈ (Utf8.encode (v : Int)).toList, 128 ≤ c.toNat := by
  have hb := (valid_iff _).1 hv
  rw [enc_list v hv, if_neg (by omega)]
  intro c hc
  by_cases h2 : v < 2048
  · rw [if_pos h2] at hc
    simp only [List.mem_cons, List.not_mem_nil, or_false] at hc
    rcases hc with rfl | rfl <;> rw [ofNat_toNat _ (by omega)] <;> omega
  rw [if_neg h2] at hc
  by_cases h3 : v < 65536
  · rw [if_pos h3] at hc
    simp only [List.mem_cons, List.not_mem_nil, or_false] at hc
    rcases hc with rfl | rfl | rfl <;> rw [ofNat_toNat _ (by omega)] <;> omega
  rw [if_neg h3] at hc
  simp only [List.mem_cons, List.not_mem_nil, or_false] at hc
  rcases hc with rfl | rfl | rfl | rfl <;> rw [ofNat_toNat _ (by omega)] <;> omega
theorem enc_low (v : Nat) (h : v < 128) : (Utf8.encode (v : Int)).toList = [UInt8.ofNat v] := by
  rw [enc_list v ((valid_iff _).2 (by omega)), if_pos h]
/-- one rune on: below 128 its byte is written, above it is itself -/
theorem flat_low (f : UInt8 → List UInt8) (s : ByteArray) (p : Nat) (h : p < s.size) (hg : bad s p = false) (hr : run s p < 128) :
    (s.data.toList.take (p + (Utf8.decode s p).2)).flatMap f = (s.data.toList.take p).flatMap f ++ f (UInt8.ofNat (run s p)) := by
  rw [take_rune s p h hg, List.flatMap_append, enc_low _ hr]
  simp
theorem flat_high (f : UInt8 → List UInt8) (hf : ∀ c : UInt8, 128 ≤ c.toNat → f c = [c]) (s : ByteArray) (p : Nat) (h : p < s.size) (hg : bad s p = false) (hr : 128 ≤ run s p) :
    (s.data.toList.take (p + (Utf8.decode s p).2)).flatMap f = (s.data.toList.take p).flatMap f ++ (Utf8.encode (run s p : Int)).toList := by
  rw [take_rune s p h hg, List.flatMap_append, flat_self f hf _ (enc_high _ (good_valid s p hg) hr)]
theorem u8_of (c : UInt8) : UInt8.ofNat c.toNat = c := UInt8.toNat_inj.1 (ofNat_toNat _ c.toNat_lt)
theorem wrQ_high (c : UInt8) (h : 128 ≤ c.toNat) : wrQ c = [c] := by
  have := wrQ_self c.toNat c.toNat_lt (by omega)
  rwa [u8_of] at this
theorem wrJ_high (c : UInt8) (h : 128 ≤ c.toNat) : wrJ c = [c] := by
  have := wrJ_self c.toNat c.toNat_lt (by omega)
  rwa [u8_of] at this
theorem flat_len (f : UInt8 → List UInt8) (hf : ∀ c : Nat, c < 256 → (f (UInt8.ofNat c)).length ≤ 6) : ∀ l : List UInt8, (l.flatMap f).length ≤ 6 * l.length
  | [] => by simp
  | c :: l => by
    rw [List.flatMap_cons, List.length_append, List.length_cons]
    have h1 := hf c.toNat c.toNat_lt
    rw [u8_of] at h1
    have := flat_len f hf l
    omega
end Go.Proofs.Ytifaepkeoffcfaa.U
