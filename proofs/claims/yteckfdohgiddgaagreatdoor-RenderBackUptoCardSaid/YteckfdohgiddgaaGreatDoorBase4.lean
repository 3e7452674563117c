/- Words for texts turned into bytes and back. No function of the program in sight. -/
import Derived.Test.YteckfdohgiddgaaGreatDoorBase3
import Derived.Test.YteckfdohgiddgaaGreatDoorUNext
import Derived.Laws.IdiomStrings
namespace Go.Proofs.YteckfdohgiddgaaGreatDoor
open Go.RowKit
section
variable {P : Program} {ops : Array Oper} {rest : List Oper} {o : Oper} {a : Act} {Q : Exit → Act → World → Prop}
/-- 'string(b)', b a slice that reads as the bytes l -/
theorem run_string_of (w : World) (src dst e : TypeId) (hs : P.underlying src = some (.slice e)) (he : P.underlying e = some (.int .u8)) (hd : P.underlying dst = some .string)
    (v : Value) (n : Nat) (l : List UInt8) (h : IsL 1 w v n (cellsB l)) : (convert src dst v).run P w = .ok (.string ⟨l.toArray⟩) w := by
  obtain ⟨hl, A, c, rfl, hr⟩ := h
  rw [cellsB_len, Nat.mul_one] at hl
  subst hl
  by_cases h0 : l.length = 0
  · have : l = [] := List.eq_nil_of_length_eq_zero h0
    subst this
    rw [run_convert_bytes_string w src dst e _ _ _ hs he hd]
    cases A with
    | none => simp [Conv.bytesToString]; rfl
    | some ad => 
      have := run_bytesToString (P := P) w ad 0 c [] (by simp [loadCells, loadCellsFrom])
      exact this
  · obtain ⟨b, off, rfl, _, hc⟩ := hr.head (by rw [cellsB_len]; omega)
    have := run_convert_bytes_arg (P := P) w src e hs he b off l.length c (l.map fun x => (x.toNat : Int)) (by simp) (fun i hi => by
      have := hc i (by rw [cellsB_len]; exact hi)
      rw [this]
      simp [cellsB, List.getD, hi]) dst hd
    rw [this]
    congr 2
    unfold strOfNums
    rw [List.map_map]
    have : (fun n : Int => UInt8.ofNat n.toNat) ∘ (fun x : UInt8 => (x.toNat : Int)) = id := by funext x; simp
    rw [this, List.map_id]
end
end Go.Proofs.YteckfdohgiddgaaGreatDoor
