/- Plain law: runes written as a text are read back one by one. -/
import Derived.Test.YthlpgnidjjclcaaUWrMath
namespace Go.Proofs.Ythlpgnidjjclcaa.U
open Go
/-- the bytes of the forms of a list of runes -/
def encs (l : List Int) : List UInt8 := l.flatMap fun r => (Utf8.encode r).toList
def allRunes (l : List Int) : Bool := l.all fun r => Utf8.valid r
theorem encs_nil : encs [] = [] := rfl
theorem encs_cons (r : Int) (l : List Int) : encs (r :: l) = (Utf8.encode r).toList ++ encs l := List.flatMap_cons
theorem encs_app (a b : List Int) : encs (a ++ b) = encs a ++ encs b := List.flatMap_append
theorem encs_one (r : Int) : encs [r] = (Utf8.encode r).toList := by rw [encs_cons, encs_nil, List.append_nil]
theorem valid_nat (r : Int) (h : Utf8.valid r = true) : ∃ n : Nat, r = n ∧ n ≤ 1114111 := by
  have := (valid_iff r).1 h
  exact ⟨r.toNat, by omega, by omega⟩
/-- a rune's form, by its width -/
theorem enc_len_eq (n : Nat) (hv : Utf8.valid (n : Int) = true) : (Utf8.encode (n : Int)).toList.length = if n < 128 then 1 else if n < 2048 then 2 else if n < 65536 then 3 else 4 := by
  rw [← enc_size n hv, ByteArray.toList_eq, Lib.size_eq]
theorem encs_len (l : List Int) (h : allRunes l = true) : (encs l).length ≤ 4 * l.length := by
  induction l with
  | nil => simp [encs]
  | cons r l ih =>
    unfold allRunes at h ih
    rw [List.all_cons, Bool.and_eq_true] at h
    obtain ⟨n, rfl, _⟩ := valid_nat r h.1
    have := enc_len_eq n h.1
    rw [encs_cons, List.length_append, List.length_cons, this]
    have := ih h.2
    repeat' split
    all_goals omega
theorem at_mk (l : List UInt8) (k : Nat) : at' ⟨l.toArray⟩ k = ((l[k]?).getD 0).toNat := by rw [at_list]
theorem mk_size (l : List UInt8) : (⟨l.toArray⟩ : ByteArray).size = l.length := by rw [Lib.size_eq]
/-- where a rune's form stands in a text, the decoding gives the rune -/
theorem dec_at (pre post : List UInt8) (n : Nat) (hv : Utf8.valid (n : Int) = true) :
    Utf8.decode ⟨(pre ++ ((Utf8.encode (n : Int)).toList ++ post)).toArray⟩ pre.length = (n, (Utf8.encode (n : Int)).toList.length) := by
  have hb := (valid_iff _).1 hv
  have he := enc_list n hv
  have hl := enc_len_eq n hv
  have hat : ∀ k, k < (Utf8.encode (n : Int)).toList.length → at' ⟨(pre ++ ((Utf8.encode (n : Int)).toList ++ post)).toArray⟩ (pre.length + k) = (((Utf8.encode (n : Int)).toList[k]?).getD 0).toNat := by
    intro k hk
    rw [at_mk, List.getElem?_append_right (by omega), Nat.add_sub_cancel_left, List.getElem?_append_left hk]
  have hz : (⟨(pre ++ ((Utf8.encode (n : Int)).toList ++ post)).toArray⟩ : ByteArray).size = pre.length + ((Utf8.encode (n : Int)).toList.length + post.length) := by
    rw [mk_size, List.length_append, List.length_append]
  generalize (⟨(pre ++ ((Utf8.encode (n : Int)).toList ++ post)).toArray⟩ : ByteArray) = s at hat hz ⊢
  rw [hl] at hat hz ⊢
  rw [he] at hat
  by_cases c1 : n < 128
  · simp only [if_pos c1] at hat hz ⊢
    have b0 := hat 0 (by omega)
    simp only [List.getElem?_cons_zero, Option.getD_some, Nat.add_zero] at b0
    rw [ofNat_toNat _ (by omega)] at b0
    rw [dec1 s _ (by omega), b0]
  simp only [if_neg c1] at hat hz ⊢
  by_cases c2 : n < 2048
  · simp only [if_pos c2] at hat hz ⊢
    have b0 := hat 0 (by omega)
    have b1 := hat 1 (by omega)
    simp only [List.getElem?_cons_zero, List.getElem?_cons_succ, Option.getD_some, Nat.add_zero] at b0 b1
    rw [ofNat_toNat _ (by omega)] at b0 b1
    exact dec2 s _ n (by omega) (by omega) c2 b0 b1
  simp only [if_neg c2] at hat hz ⊢
  by_cases c3 : n < 65536
  · simp only [if_pos c3] at hat hz ⊢
    have b0 := hat 0 (by omega)
    have b1 := hat 1 (by omega)
    have b2 := hat 2 (by omega)
    simp only [List.getElem?_cons_zero, List.getElem?_cons_succ, Option.getD_some, Nat.add_zero] at b0 b1 b2
    rw [ofNat_toNat _ (by omega)] at b0 b1 b2
    exact dec3 s _ n (by omega) (by omega) c3 hv b0 b1 b2
  simp only [if_neg c3] at hat hz ⊢
  have b0 := hat 0 (by omega)
  have b1 := hat 1 (by omega)
  have b2 := hat 2 (by omega)
  have b3 := hat 3 (by omega)
  simp only [List.getElem?_cons_zero, List.getElem?_cons_succ, Option.getD_some, Nat.add_zero] at b0 b1 b2 b3
  rw [ofNat_toNat _ (by omega)] at b0 b1 b2 b3
  exact dec4 s _ n (by omega) (by omega) hv b0 b1 b2 b3
theorem good_at (pre post : List UInt8) (n : Nat) (hv : Utf8.valid (n : Int) = true) : bad ⟨(pre ++ ((Utf8.encode (n : Int)).toList ++ post)).toArray⟩ pre.length = false := by
  unfold bad
  rw [dec_at pre post n hv, beq_eq_false_iff_ne]
  intro h
  simp only [Prod.mk.injEq] at h
  obtain ⟨rfl, h2⟩ := h
  have := enc_len_eq 65533 hv
  rw [if_neg (by decide), if_neg (by decide), if_pos (by decide)] at this
  omega
/-- the text of a list of runes reads as these -/
theorem encs_from (pre : List UInt8) : ∀ l : List Int, allRunes l = true → vfrom ⟨(pre ++ encs l).toArray⟩ pre.length = true ∧ (runesFrom ⟨(pre ++ encs l).toArray⟩ pre.length).map (fun (n : Nat) => (n : Int)) = l := by
  intro l
  induction l generalizing pre with
  | nil => intro _; rw [encs_nil, List.append_nil]; exact ⟨vfrom_end _ _ (by rw [mk_size]; omega), by rw [runes_end _ _ (by rw [mk_size]; omega)]; rfl⟩
  | cons r l ih =>
    intro h
    unfold allRunes at h
    rw [List.all_cons, Bool.and_eq_true] at h
    obtain ⟨n, rfl, _⟩ := valid_nat r h.1
    have hd := dec_at pre (encs l) n h.1
    have hg := good_at pre (encs l) n h.1
    have hl := enc_len_eq n h.1
    have h1 : 1 ≤ (Utf8.encode (n : Int)).toList.length := by rw [hl]; repeat' split
                                                              all_goals omega
    have hlt : pre.length < (⟨(pre ++ ((Utf8.encode (n : Int)).toList ++ encs l)).toArray⟩ : ByteArray).size := by rw [mk_size, List.length_append, List.length_append]; omega
    have := ih (pre ++ (Utf8.encode (n : Int)).toList) h.2
    rw [List.append_assoc, List.length_append] at this
    rw [encs_cons]
    constructor
    · rw [vfrom_step _ _ hlt hg, hd]; exact this.1
    · rw [runes_step _ _ hlt hg, hd, List.map_cons, this.2]
      unfold run; rw [hd]
theorem encs_valid (l : List Int) (h : allRunes l = true) : valid ⟨(encs l).toArray⟩ = true := (encs_from [] l h).1
theorem encs_runes (l : List Int) (h : allRunes l = true) : (runes ⟨(encs l).toArray⟩).map (fun (n : Nat) => (n : Int)) = l := (encs_from [] l h).2
/-- the k-th rune stands behind the forms of those ahead of it -/
theorem encs_at (l : List Int) (h : allRunes l = true) (k : Nat) (hk : k < l.length) :
    bad ⟨(encs l).toArray⟩ (encs (l.take k)).length = false ∧ ((Utf8.decode ⟨(encs l).toArray⟩ (encs (l.take k)).length).1 : Int) = l[k] ∧ (Utf8.decode ⟨(encs l).toArray⟩ (encs (l.take k)).length).2 = (Utf8.encode l[k]).toList.length := by
  have hv : Utf8.valid (l[k]) = true := by unfold allRunes at h; exact List.all_eq_true.1 h _ (List.getElem_mem _)
  obtain ⟨n, hn, _⟩ := valid_nat _ hv
  have e : encs l = encs (l.take k) ++ ((Utf8.encode (n : Int)).toList ++ encs (l.drop (k + 1))) := by
    rw [← hn, ← encs_cons, ← encs_app, List.getElem_cons_drop, List.take_append_drop]
  rw [hn] at hv ⊢
  rw [e, dec_at _ _ n hv]
  exact ⟨good_at _ _ n hv, rfl, rfl⟩
theorem encs_take (l : List Int) (k : Nat) (hk : k < l.length) : encs (l.take (k + 1)) = encs (l.take k) ++ (Utf8.encode l[k]).toList := by
  rw [List.take_succ_eq_append_getElem hk, encs_app, encs_one]
/-- within a form none begins -/
theorem mid_bad (s : ByteArray) (p m : Nat) (hg : bad s p = false) (h1 : p < m) (h2 : m < p + (Utf8.decode s p).2) : bad s m = true := by
  cases hb : bad s m with
  | true => rfl
  | false =>
    have := mid_byte s p m hg h1 h2
    have := first_byte s m hb
    omega
end Go.Proofs.Ythlpgnidjjclcaa.U
