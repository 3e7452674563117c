/- The walk of labels.With. -/
import Derived.Test.YtifaepkeoffcfaaDoorLSame
namespace Go.Proofs.YtifaepkeoffcfaaDoor
open Go.RowKit
set_option linter.unusedVariables false
set_option linter.unusedSimpArgs false
namespace L
/-- a > b as the walk has it, where a and b differ -/
def gt (a b : ByteArray) : Bool := !(Op.bytesLess a.toList b.toList)
def withGo (n v : ByteArray) : Bool → List Lb → List Lb
  | put, [] => if put then [] else [(n, v)]
  | put, x :: r => if x.1 = n then withGo n v put r else if put = false ∧ gt x.1 n = true then (n, v) :: x :: withGo n v true r else x :: withGo n v put r
def withL (l : List Lb) (n v : ByteArray) : List Lb := withGo n v v.toList.isEmpty l
theorem withGo_len (n v : ByteArray) : ∀ (l : List Lb) (put : Bool), (withGo n v put l).length ≤ l.length + 1
  | [], put => by unfold withGo; split <;> simp
  | x :: r, put => by
    unfold withGo
    have h1 := withGo_len n v r put
    have h2 : (withGo n v true r).length ≤ r.length := withGo_true n v r
    split
    · simp; omega
    · split
      · simp; omega
      · simp; omega
where
  withGo_true (n v : ByteArray) : ∀ (l : List Lb), (withGo n v true l).length ≤ l.length
    | [] => by simp [withGo]
    | x :: r => by
      unfold withGo
      have := withGo_true n v r
      split
      · simp; omega
      · simp; omega
end L
theorem info_label : (Tryd.prog.info? 29).map (fun i => (i.zero, i.size, i.bytes)) = some (some (.agg #[.string ⟨#[]⟩, .string ⟨#[]⟩]), 2, 32) := by kernel_rfl
end Go.Proofs.YtifaepkeoffcfaaDoor
