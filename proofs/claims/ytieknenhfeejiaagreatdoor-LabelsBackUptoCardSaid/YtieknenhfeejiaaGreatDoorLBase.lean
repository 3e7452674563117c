/- Lists of labels: how they lie in memory, two cells a label. No function of the program in sight. -/
import Derived.Test.YtieknenhfeejiaaGreatDoorLin
set_option linter.unusedVariables false
set_option linter.unusedSimpArgs false
namespace Go.Proofs.YtieknenhfeejiaaGreatDoor
open Go.RowKit
section
variable {P:Program} {ops:Array Oper} {rest:List Oper} {o:Oper} {a:Act} {Q:Exit→Act→World→Prop}
theorem wpList_app_litH (t e:TypeId)(z:Value)(size bytes:Nat)(ht:P.underlying t=some (.slice e))(hinfo:(P.info? e).map (fun i=>(i.zero,i.size,i.bytes))=some (some z,size,bytes))(hzs:z.cells.size=size)(hsz:0<size)
  (hgd:o.guard=none)(s x:Operand)(ho:o.op=.call { callee:=.builtin .append,args:=#[s,x],argTypes:=#[t,t] })
  (B:Nat)(v:Value)(n:Nat)(xs:List Value)(W:World)(C:Array Value)(m:Nat)(H:Nat)(hH:W.heap.size=H)(hs:a.eval s=v)(hx:a.eval x=.slice (some ⟨H,0,none⟩) m m)
  (hown:W.ownsRow B e size v n xs)(hC:C.size=m*size)(h1:∀u∈C.toList,u.oneCell'=true)(hb:(n+m)*bytes≤140737488355328)(hn:n+m≤140737488355328)(hB:B≤W.heap.size)
  (h:∀v' w',w'.ownsRow B e size v' (n+m) (xs++C.toList)→W.grownBy w' v.ownBlock→wpList P ops Q rest (a.put o.dst v') w') :
  wpList P ops Q (o::rest) a (W.alloc (.cells C e)):=by
 subst hH;exact wpList_app_lit t e z size bytes ht hinfo hzs hsz hgd s x ho B v n xs W C m hs hx hown hC h1 hb hn hB h
end
abbrev Lb:=ByteArray×ByteArray
def cellsL (l:List Lb):List Value:=l.flatMap fun x=>[.string x.1,.string x.2]
theorem cellsL_cons (x:Lb)(l:List Lb):cellsL (x::l)=.string x.1 :: .string x.2::cellsL l:=rfl
theorem cellsL_app (a b:List Lb):cellsL (a++b)=cellsL a++cellsL b:=List.flatMap_append
theorem cellsL_len:∀l:List Lb,(cellsL l).length=l.length*2
 |[]=>rfl
 |x::l=>by rw[cellsL_cons,List.length_cons,List.length_cons,List.length_cons,cellsL_len l];omega
theorem cellsL_one (l:List Lb):∀u∈cellsL l,u.oneCell'=true:=by
 intro u hu;obtain⟨x,_,hx⟩:=List.mem_flatMap.1 hu;simp only[List.mem_cons,List.not_mem_nil,or_false]at hx;rcases hx with rfl|rfl<;>rfl
theorem cellsL_at:∀(l:List Lb) (i:Nat) (h:i<l.length),(cellsL l)[i*2]?=some (.string l[i].1)∧(cellsL l)[i*2+1]?=some (.string l[i].2)
 |x::l,0,_=>⟨rfl,rfl⟩
 |x::l,i+1,h=>by
  have:=cellsL_at l i (by simpa using h);rw[cellsL_cons,show (i+1)*2=i*2+1+1 by omega,show i*2+1+1+1=i*2+1+1+1 from rfl];simpa using this
theorem cellsL_take (l:List Lb)(k:Nat):(cellsL l).take (k*2)=cellsL (l.take k):=by
 induction l generalizing k with
 |nil=>simp[cellsL]
 |cons x l ih=>
  cases k with
  |zero=>simp[cellsL]
  |succ k=>
   rw[cellsL_cons,show (k+1)*2=k*2+1+1 by omega,List.take_succ_cons,List.take_succ_cons,List.take_succ_cons,cellsL_cons,ih]
abbrev IsLb (w:World)(v:Value)(l:List Lb):Prop:=IsL 2 w v l.length (cellsL l)
theorem IsLb.at_ {w:World}{A:Option Addr}{n c:Nat}{l:List Lb}(h:IsL 2 w (.slice A n c) n (cellsL l))(i:Nat)(hi:i<l.length) :
  ∃b off,A=some ⟨b,off,none⟩∧b<w.heap.size∧w.cell? ⟨b,off+i*2,none⟩=some (.string l[i].1)∧w.cell? ⟨b,off+i*2+1,none⟩=some (.string l[i].2):=by
 obtain⟨hl,A',c',e,r⟩:=h;simp only[Value.slice.injEq,true_and]at e;obtain⟨rfl,_⟩:=e;have hz:=cellsL_len l;obtain⟨b,off,rfl,hb,hc⟩:=r.head (by omega);refine⟨b,off,rfl,hb,?_,?_⟩
 ·rw[hc (i*2) (by omega)]
  have:=(cellsL_at l i hi).1;rw[List.getElem?_eq_getElem (by omega)]at this;exact this
 ·rw[show off+i*2+1=off+(i*2+1) by omega,hc (i*2+1) (by omega)]
  have:=(cellsL_at l i hi).2;rw[List.getElem?_eq_getElem (by omega)]at this;exact this
theorem IsLb.len {w:World}{v:Value}{n:Nat}{l:List Lb}(h:IsL 2 w v n (cellsL l)):l.length=n:=by
 have:=h.1;rw[cellsL_len]at this;omega
theorem IsL.shape {size:Nat}{w:World}{v:Value}{n:Nat}{xs:List Value}(h:IsL size w v n xs):∃A c,v=.slice A n c:=by
 obtain⟨_,A,c,rfl,_⟩:=h;exact⟨A,c,rfl⟩
end Go.Proofs.YtieknenhfeejiaaGreatDoor
