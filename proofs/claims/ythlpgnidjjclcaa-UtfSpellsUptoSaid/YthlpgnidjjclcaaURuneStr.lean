/- string(rs), rs a list of runes; texts behind one another as lists of bytes. -/
import Derived.Test.YthlpgnidjjclcaaULawBack
import Derived.Laws.Cover4
namespace Go.Proofs.Ythlpgnidjjclcaa
open Go.RowKit
theorem runesBytes_eq (ns : List Int) : runesBytes ns = ⟨(U.encs ns).toArray⟩ := by
  have h : ∀ (l : List Int) (s : ByteArray), (l.foldl (fun r n => r ++ Utf8.encode n) s).data.toList = s.data.toList ++ U.encs l := by
    intro l
    induction l with
    | nil => intro s; simp [U.encs]
    | cons n l ih =>
      intro s
      rw [List.foldl_cons, ih, U.encs_cons, U.app_data, ByteArray.toList_eq, List.append_assoc]
  apply ByteArray.ext
  apply Array.toList_inj.1
  unfold runesBytes
  rw [h]
  simp
theorem run_runes_of (w : World) (v : Value) (n : Nat) (xs : List Int) (h : IsL 1 w v n (ints32 xs)) : (convert 23 9 v).run Try.prog w = .ok (.string ⟨(U.encs xs).toArray⟩) w := by
  obtain ⟨l1, A, c, rfl, r1⟩ := h
  rw [ints32_len, Nat.mul_one] at l1
  cases A with
  | none =>
    have h0 : xs = [] := by
      rcases Nat.eq_zero_or_pos xs.length with h0 | h0
      · exact List.eq_nil_of_length_eq_zero h0
      · obtain ⟨b, off, e, _⟩ := r1 0 (by rw [ints32_len]; exact h0)
        cases e
    subst h0
    exact run_convert_runes_nil w 23 9 21 n c Try.underlying23 Try.underlying21 Try.underlying9
  | some a =>
    have := run_convert_runes (P := Try.prog) w 23 9 21 a n c xs (by omega) Try.underlying23 Try.underlying21 Try.underlying9 (fun j hj => by
      obtain ⟨b, off, e, hc⟩ := r1 j (by rw [ints32_len]; exact hj)
      obtain rfl : a = ⟨b, off, none⟩ := by simpa using e
      rw [add_plain, hc]
      simp [ints32, List.getD_eq_getElem?_getD, hj])
    rw [this, List.take_of_length_le (by omega), runesBytes_eq]
theorem app_three (a b : ByteArray) (l : List UInt8) : (a ++ (⟨l.toArray⟩ : ByteArray)) ++ b = ⟨(a.data.toList ++ (l ++ b.data.toList)).toArray⟩ := by
  apply ByteArray.ext
  apply Array.toList_inj.1
  rw [U.app_data, U.app_data, List.append_assoc]
end Go.Proofs.Ythlpgnidjjclcaa
