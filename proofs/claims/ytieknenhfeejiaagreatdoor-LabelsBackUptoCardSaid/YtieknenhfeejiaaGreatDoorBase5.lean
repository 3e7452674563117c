/- Words for texts put behind a row of bytes. No function of the program in sight. -/
import Derived.Test.YtieknenhfeejiaaGreatDoorBase4
import Derived.Lib.AppendStr
set_option linter.unusedVariables false
set_option linter.unusedSimpArgs false
namespace Go.Proofs.YtieknenhfeejiaaGreatDoor
open Go.RowKit
section
variable {P:Program} {ops:Array Oper} {rest:List Oper} {o:Oper} {a:Act} {Q:Exit→Act→World→Prop}
theorem wpList_app_str (w:World)(t u e:TypeId)(ht:P.underlying t=some (.slice e))(hu:P.underlying u=some .string)(hinfo:(P.info? e).map (fun i=>(i.zero,i.size,i.bytes))=some (some (.int .u8 0),1,1))
  (hgd:o.guard=none)(s x:Operand)(ho:o.op=.call { callee:=.builtin .append,args:=#[s,x],argTypes:=#[t,u] })
  (B:Nat)(v:Value)(n:Nat)(xs:List Value)(hs:a.eval s=v)(hown:w.ownsRow B e 1 v n xs)(y:ByteArray)(hx:a.eval x=.string y)
  (hb:n+y.size≤140737488355328)(hB:B≤w.heap.size)
  (h:∀v' w',w'.ownsRow B e 1 v' (n+y.size) (xs++cellsB y.data.toList)→w.grownBy w' v.ownBlock→wpList P ops Q rest (a.put o.dst v') w'):wpList P ops Q (o::rest) a w:=by
 obtain⟨i,hi,hz0,hz1,hz2⟩:=info_parts hinfo;exact Lib.wpList_append_own_string w hgd s x t u ho B e i ht hu hi hz0 hz1 hz2 v n xs hs hown y hx (by unfold maxLen;omega) hb hB (fun v' w' h1 h2 _=>h v' w' h1 h2)
end
end Go.Proofs.YtieknenhfeejiaaGreatDoor
