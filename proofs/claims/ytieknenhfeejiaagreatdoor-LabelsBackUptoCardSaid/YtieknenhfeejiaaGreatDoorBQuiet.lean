/- A region that draws its order, whose operations read and whose calls keep all .. -/
import Derived.Test.YtieknenhfeejiaaGreatDoorBase3
set_option linter.unusedVariables false
set_option linter.unusedSimpArgs false
namespace Go.Proofs.YtieknenhfeejiaaGreatDoor
open Go.RowKit
structure BelW (W:World) where
 w:World
 h:Below W.heap.size W w
instance (W:World):Inhabited (BelW W):=⟨⟨W,Below.refl _ _⟩⟩
theorem wp_region_below {P:Program}{id:Nat}{Q:Exit→Act→World→Prop}{a:Act}{w:World}{l:List Oper}(hm:P.follows .mixedOrders=true)(hB:Region.lexB .any l.toArray=true)
  (h:wpQuiet P l.toArray (fun w'=>∃p:BelW w,w'=p.w) (fun a'=>∀w',(∃p:BelW w,w'=p.w)→Q .normal a' w') l a):(Code.region id l.toArray true).wp P Q a w:=
 wp_region_quiet (C:=fun w'=>∃p:BelW w,w'=p.w) hm hB ⟨⟨w.drew,(Below.refl _ _).drew⟩,rfl⟩ (by simpa using h)
theorem Calls.below_of {P:Program}{f:FuncId}{args:Array Value}{W:World}{p:BelW W}{v:Value}
  (h:Calls P f args p.w fun e w'=>e=.returned v∧Below p.w.heap.size p.w w'):Calls P f args p.w fun e w''=>e=.returned v∧∃q:BelW W,w''=q.w:=
 h.mono fun _ w' ⟨he,hb⟩=>⟨he,⟨w',bel p.h hb⟩,rfl⟩
theorem Calls.below_same {P:Program}{f:FuncId}{args:Array Value}{W:World}{p:BelW W}{v:Value}
  (h:Calls P f args p.w fun e w'=>e=.returned v∧p.w=w'):Calls P f args p.w fun e w''=>e=.returned v∧∃q:BelW W,w''=q.w:=
 h.mono fun _ w' ⟨he,hb⟩=>⟨he,p,hb.symm⟩
theorem BelW.cell {W:World}(p:BelW W){b o:Nat}{v:Value}(h:W.cell? ⟨b,o,none⟩=some v):p.w.cell? ⟨b,o,none⟩=some v:=
 (p.h.cell (p:=⟨b,o,none⟩) (World.block_lt_of_cell? W _ h)).trans h
end Go.Proofs.YtieknenhfeejiaaGreatDoor
