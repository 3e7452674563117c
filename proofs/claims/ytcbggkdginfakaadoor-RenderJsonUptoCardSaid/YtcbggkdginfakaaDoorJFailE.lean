/- The answer of a refusal as a tree. Plain law. -/
import Derived.Test.YtcbggkdginfakaaDoorJFail
import Derived.Test.YtcbggkdginfakaaDoorJEnc
namespace Go.Proofs.YtcbggkdginfakaaDoor
open Go.RowKit
set_option linter.unusedVariables false
set_option linter.unusedSimpArgs false
open RJ
namespace RJ
theorem enc_three (d : Nat) (k1 k2 k3 v1 v2 v3 : List UInt8) (t1 t2 t3 : JT) (h1 : ∀ c ∈ k1, Pl c) (h2 : ∀ c ∈ k2, Pl c) (h3 : ∀ c ∈ k3, Pl c) (l1 : k1.length ≤ 100) (l2 : k2.length ≤ 100) (l3 : k3.length ≤ 100) (e1 : Enc d v1 t1) (e2 : Enc d v2 t2) (e3 : Enc d v3 t3) :
    Enc (d + 1) (123 :: (34 :: (k1 ++ 34 :: 58 :: v1) ++ 44 :: 34 :: (k2 ++ 34 :: 58 :: v2) ++ 44 :: 34 :: (k3 ++ 34 :: 58 :: v3)) ++ [125]) (.obj [str k1, str k2, str k3] [t1, t2, t3]) := by
  refine ⟨[v1, v2, v3], ?_, rfl, rfl, by simp, fun s h => ?_, fun i x u g1 g2 => ?_⟩
  · simp only [List.zip_cons_cons, List.zip_nil_right, List.map_cons, List.map_nil]
    rw [jn_cons, (tx_pl k1 h1).1, (tx_pl k2 h2).1, (tx_pl k3 h3).1]; simp
  · simp only [List.mem_cons, List.not_mem_nil, or_false] at h
    rcases h with rfl | rfl | rfl
    · exact ⟨by rw [str_size]; omega, (tx_pl k1 h1).2⟩
    · exact ⟨by rw [str_size]; omega, (tx_pl k2 h2).2⟩
    · exact ⟨by rw [str_size]; omega, (tx_pl k3 h3).2⟩
  · match i, g1, g2 with
    | 0, g1, g2 => cases g1; cases g2; exact e1
    | 1, g1, g2 => cases g1; cases g2; exact e2
    | 2, g1, g2 => cases g1; cases g2; exact e3
    | i + 3, g1, g2 => simp at g1
theorem ty_pl (s : Int) : (∀ c ∈ T.ty s, Pl c) ∧ (T.ty s).length ≤ 12 := by
  unfold T.ty
  split
  · decide
  split
  · decide
  split
  · decide
  split
  · decide
  split
  · decide
  · decide
def msg (e p : Int) : List UInt8 := [119, 101, 105, 114, 58, 32, 101, 114, 114, 111, 114, 32] ++ T.it e ++ (if 0 ≤ p then [32, 97, 116, 32] ++ T.it p else [])
theorem msg_pl (e p : Int) : ∀ c ∈ msg e p, Pl c := by
  unfold msg
  refine app_pl (app_pl (by decide) (itoa_pl e)) ?_
  split
  · exact app_pl (by decide) (itoa_pl p)
  · simp
theorem msg_len (e p : Int) (he0 : -9223372036854775808 ≤ e) (he1 : e ≤ 9223372036854775807) (hp0 : -9223372036854775808 ≤ p) (hp1 : p ≤ 9223372036854775807) : (msg e p).length ≤ 100 := by
  have h1 := T.it_len e he0 he1
  have h2 := T.it_len p hp0 hp1
  unfold msg
  split <;> simp <;> omega
def failT (s e p : Int) : JT := .obj [str bStatus, str [101, 114, 114, 111, 114, 84, 121, 112, 101], str [101, 114, 114, 111, 114]] [.txt (str [101, 114, 114, 111, 114]), .txt (str (T.ty s)), .txt (str (msg e p))]
theorem enc_fail (s e p : Int) (he0 : -9223372036854775808 ≤ e) (he1 : e ≤ 9223372036854775807) (hp0 : -9223372036854775808 ≤ p) (hp1 : p ≤ 9223372036854775807) : Enc 16 (T.ans (T.ty s) e p) (failT s e p) := by
  have := enc_three 15 bStatus [101, 114, 114, 111, 114, 84, 121, 112, 101] [101, 114, 114, 111, 114] (34 :: ([101, 114, 114, 111, 114] ++ [34])) (34 :: (T.ty s ++ [34])) (34 :: (msg e p ++ [34])) _ _ _ (by decide) (by decide) (by decide) (by decide) (by decide) (by decide)
    (enc_pl 14 [101, 114, 114, 111, 114] (by decide) (by decide)) (enc_pl 14 _ (ty_pl s).1 (by have := (ty_pl s).2; omega)) (enc_pl 14 _ (msg_pl e p) (by have := msg_len e p he0 he1 hp0 hp1; omega))
  refine cast (congrArg (fun b => Enc 16 b (failT s e p)) ?_) this
  simp [T.ans, msg, bStatus]
end RJ
end Go.Proofs.YtcbggkdginfakaaDoor
