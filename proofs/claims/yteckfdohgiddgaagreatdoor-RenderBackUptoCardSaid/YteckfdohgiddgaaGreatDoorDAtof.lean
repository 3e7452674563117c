/- (*internal/strconv.decimal).floatBits: the nearest float. (*internal/strconv.decimal).set over a decimal lexeme. Printed by mkset.py. internal/strconv.atof64 over every decimal lexeme: the nearest float. -/
import Derived.Test.YteckfdohgiddgaaGreatDoorDTwo
import Derived.Deep.QuietTactic
import Derived.BigQuiet
import Derived.Scope
import Derived.Test.YteckfdohgiddgaaGreatDoorPVal
import Derived.StillTailTactics
namespace Go.Proofs.YteckfdohgiddgaaGreatDoor
open Go.RowKit
set_option linter.unusedVariables false
set_option linter.unusedSimpArgs false
/-- the way out of a scope: behind a label the code goes on once -/
def ExGoes (P : Program) (c : Code) (Q : Exit → Act → World → Prop) : Exit → Act → World → Prop
  | .goto l, a, w => ∃ rest, findLabel c l = some rest ∧ rest.wp P (Exit.noGoto Q) a w
  | e, a, w => Q e a w
theorem exGoes_ret {P : Program} {c : Code} {Q : Exit → Act → World → Prop} {a : Act} {w : World} : ExGoes P c Q .ret a w = Q .ret a w := rfl
attribute [go_sem] exGoes_ret
namespace DN
open FS
attribute [local irreducible] X Z
end DN
namespace DN
theorem i2047 : ((List.range 2048).all fun y : Nat => bits .and .i64 (y : Int) 2047 == (y : Int)) = true := by decide +kernel
theorem and_2047 {y : Nat} (h : y < 2048) : bits .and .i64 (y : Int) 2047 = (y : Int) := by
  have := List.all_eq_true.1 i2047 y (List.mem_range.2 h)
  exact beq_iff_eq.1 this
end DN
/-- a row of digits in the midst of floatBits -/
structure Fm (xh K : Nat) (w : World) (b : Nat) (dp e : Int) : Prop where
  ex : ∃ f nd tr, Dc w b f nd dp tr ∧ DN.SS xh (DN.GG K) f nd dp tr e
theorem Fm.cast {xh K : Nat} {w : World} {b : Nat} {dp e e' : Int} (h : Fm xh K w b dp e) (he : e = e') : Fm xh K w b dp e' := by subst he; exact h
end Go.Proofs.YteckfdohgiddgaaGreatDoor
namespace Go.Proofs.YteckfdohgiddgaaGreatDoor
open Go.RowKit
set_option linter.unusedVariables false
set_option linter.unusedSimpArgs false
/-- what has been read into the decimal -/
structure SetI (w : World) (b : Nat) (nd : Nat) (dp : Int) (l : List UInt8) : Prop where
  ex : ∃ f, Dc w b f nd dp false ∧ DN.Ok f nd ∧ (0 < nd → 49 ≤ f 0) ∧ DN.dvf f nd = (PF.mf l PF.ls0).D
end Go.Proofs.YteckfdohgiddgaaGreatDoor
namespace Go.Proofs.YteckfdohgiddgaaGreatDoor
open Go.RowKit
set_option linter.unusedVariables false
set_option linter.unusedSimpArgs false
theorem Lc.mono {w : World} {b b' : Nat} (h : Lc w b) (hb : b ≤ b') : Lc w b' := by
  obtain ⟨B, o, cap, h1, h2, h3⟩ := h.ex
  exact ⟨B, o, cap, by omega, by omega, h3⟩
theorem SetI.ext {w : World} {b nd : Nat} {dp : Int} {l l' : List UInt8} (h : SetI w b nd dp l) (e : l = l') : SetI w b nd dp l' := by subst e; exact h
namespace DN
open FS
attribute [local irreducible] X Z
end DN
end Go.Proofs.YteckfdohgiddgaaGreatDoor
