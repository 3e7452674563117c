/- Lists of labels: how they lie in memory, two cells a label. No function of the program in sight. -/
import Derived.Test.YtieknenhfeejiaaGreatDoorLin
namespace Go.Proofs.YtieknenhfeejiaaGreatDoor
open Go.RowKit
set_option linter.unusedVariables false
section
variable {P : Program} {ops : Array Oper} {rest : List Oper} {o : Oper} {a : Act} {Q : Exit → Act → World → Prop}
theorem wpList_app_litH (t e : TypeId) (z : Value) (size bytes : Nat) (ht : P.underlying t = some (.slice e)) (hinfo : (P.info? e).map (fun i => (i.zero, i.size, i.bytes)) = some (some z, size, bytes)) (hzs : z.cells.size = size) (hsz : 0 < size)
  (hgd : o.guard = none) (s x : Operand) (ho : o.op = .call { callee := .builtin .append, args := #[s, x], argTypes := #[t, t] })
  (B : Nat) (v : Value) (n : Nat) (xs : List Value) (W : World) (C : Array Value) (m : Nat) (H : Nat) (hH : W.heap.size = H) (hs : a.eval s = v) (hx : a.eval x = .slice (some ⟨H, 0, none⟩) m m)
  (hown : W.ownsRow B e size v n xs) (hC : C.size = m * size) (h1 : ∀ u ∈ C.toList, u.oneCell' = true) (hb : (n + m) * bytes ≤ 140737488355328) (hn : n + m ≤ 140737488355328) (hB : B ≤ W.heap.size)
  (h : ∀ v' w', w'.ownsRow B e size v' (n + m) (xs ++ C.toList) → W.grownBy w' v.ownBlock → wpList P ops Q rest (a.put o.dst v') w') :
  wpList P ops Q (o :: rest) a (W.alloc (.cells C e)) := by
 subst hH
 exact wpList_app_lit t e z size bytes ht hinfo hzs hsz hgd s x ho B v n xs W C m hs hx hown hC h1 hb hn hB h
end
abbrev Lb := ByteArray × ByteArray
end Go.Proofs.YtieknenhfeejiaaGreatDoor
