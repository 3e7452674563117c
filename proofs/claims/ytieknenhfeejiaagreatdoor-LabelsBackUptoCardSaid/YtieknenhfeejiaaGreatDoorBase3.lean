/- Words for all proofs of this seat: worlds that keep what was there, opening o .. -/
import Derived.Test.YtieknenhfeejiaaGreatDoorRows
import Derived.WalkKit
import Derived.WalkSpells
import Derived.WalkLawsBesides
import Derived.ProofKit
import Derived.Lib.Hide
import Derived.Lib.Strings
import Derived.OpenShut
import Derived.ChangeSame
import Derived.SizedLaws
import Derived.JoinedCond
import Derived.Deep.CondSized
import Derived.Deep.Slices
import Derived.Deep.Fields
import Derived.Deep.AppendLies
import Derived.Deep.Draws
import Derived.Lib.OthersKept
import Derived.BigQuiet
import Derived.Deep.QuietTactic
set_option linter.unusedVariables false
set_option linter.unusedSimpArgs false
namespace Go.Proofs.YtieknenhfeejiaaGreatDoor
theorem bf {α:Type _}[BEq α][LawfulBEq α]{a b:α}:(a==b)=false↔a≠b:=beq_eq_false_iff_ne
open Go.RowKit
theorem ret_bool {a b:Bool}(h:a=b):Ending.returned (.bool a)=.returned (.bool b):=by rw[h]
theorem ret_int {k:IntKind}{a b:Int}(h:a=b):Ending.returned (.int k a)=.returned (.int k b):=by rw[h]
theorem ret_str {a b:ByteArray}(h:a=b):Ending.returned (.string a)=.returned (.string b):=by rw[h]
theorem bel {w a b:World}(h:Below w.heap.size w a)(k:Below a.heap.size a b):Below w.heap.size w b:=h.trans (k.mono h.size)
theorem add_plain (b off n:Nat):(⟨b,off,none⟩:Addr).add n=⟨b,off+n,none⟩:=by unfold Addr.add;split<;>simp_all
theorem plain_of_cell {w:World}{a:Addr}{v:Value}(h:w.cell? a=some v):a=⟨a.block,a.off,none⟩:=by
 unfold World.cell? at h;split at h
 ·split at h
  ·cases h
  ·rename_i hs
   cases a with
   |mk b o s=>cases s with
    |none=>rfl
    |some x=>simp at hs
 ·cases h
theorem list_of {α:Type}:∀(n:Nat) (R:Nat→α→Prop),(∀i,i<n→∃a,R i a)→∃l:List α,l.length=n∧∀i (h:i<l.length),R i (l[i]'h)
 |0,_,_=>⟨[],rfl,fun i h=>absurd h (by simp)⟩
 |n+1,R,h=>by
  obtain⟨a,ha⟩:=h 0 (by omega);obtain⟨l,hl,hr⟩:=list_of n (fun i=>R (i+1)) (fun i hi=>h (i+1) (by omega));refine⟨a::l,by simp[hl],fun i hi=>?_⟩;cases i with
  |zero=>exact ha
  |succ j=>exact hr j (by simpa using hi)
section
open Go.ChangeShapes Go.WideShapes Go.Deep
variable {H:Type} {enc:TypeId×Value→H} {P:Program} {w:World} {base:Nat} {spare:Nat→Bool} {held:Bool}
theorem open_slice_fields {t e:TypeId}{fs:Array Field}{fuel:Nat}{cs:List Value}{x:DataW H×List MemPlace}(ht:P.underlying t=some (.slice e))(he:P.underlying e=some (.struct fs))
  (hone:oneCellFields P fs=true)(hC:P.cellsOf e=fs.size)(h:DataW.trod enc P w base spare held fuel t cs=some x) :
  (cs=[.slice none 0 0]∧x=(.nil,[]))∨
  ∃(a:Addr) (len cap m:Nat) (D:Nat→DataW H) (Pl:Nat→List MemPlace),cs=[.slice (some a) len cap]∧base≤a.block∧len≤cap∧cap≤maxLen∧m=(if spare a.block then cap else len)∧
   x=(.slice ((List.range len).map D) ((List.range (m-len)).map fun j=>D (len+j)),MemPlace.row a (m*fs.size)++(List.range m).flatMap Pl)∧
   ∀i,i<m→∃(ys:List (DataW H×List MemPlace)) (n:Nat),D i=.agg (ys.map (·.1))∧Pl i=ys.flatMap (·.2)∧ys.length=fs.size∧
    ∀(j:Nat) (f:Field),fs[j]?=some f→∃(v:Value) (y:DataW H×List MemPlace),w.cell? (a.add (i*fs.size+j))=some v∧ys[j]?=some y∧DataW.trod enc P w base spare held n f.type [v]=some y:=by
 rcases open_slice ht h with h0|⟨a,len,cap,m,n,D,Pl,hcs,hb,hl,hm,hmm,hx,hi⟩
 ·exact .inl h0
 ·refine .inr ⟨a,len,cap,m,D,Pl,hcs,hb,hl,hm,hmm,by rw[hC]at hx;exact hx,fun i him=>?_⟩
  obtain⟨cs',hc,ht'⟩:=hi i him;rw[hC]at hc;obtain⟨ys,n',hn',hy,hlen,hyl,hf⟩:=DataW.trod_struct he ht';obtain⟨_,hcl,hat⟩:=World.cells?_some hc;simp only[Prod.mk.injEq]at hy;refine⟨ys,n',hy.1,hy.2,hyl,fun j f hj=>?_⟩;obtain⟨ho,hk⟩:=hone_of hone j f hj;have hjl:j<fs.size:=(Array.getElem?_eq_some_iff.1 hj).1;have hcell:=hat j hjl;have hv:cs'[j]?=some (cs'[j]'(by omega)):=List.getElem?_eq_getElem (by omega);have h1:=hf j f hj;rw[ho,hk]at h1;have hone':(cs'.drop j).take 1=[cs'[j]'(by omega)]:=by
   rw[List.drop_eq_getElem_cons (by omega)];rfl
  rw[hone']at h1;have hys:ys[j]?=some (ys[j]'(by omega)):=List.getElem?_eq_getElem (by omega);refine⟨_,_,?_,hys,h1.trans hys⟩;rw[←Go.Deep.add_add,hcell,hv]
end
end Go.Proofs.YtieknenhfeejiaaGreatDoor
namespace Go.Proofs.YtieknenhfeejiaaGreatDoor
open Go.RowKit
section
variable {P:Program} {ops:Array Oper} {rest:List Oper} {o:Oper} {a:Act} {Q:Exit→Act→World→Prop}
theorem grown_of_alloc {W w':World}{ob:Obj}{row:Option Nat}(h:(W.alloc ob).grownBy w' row):W.grownBy w' row:=
 ⟨h.os,h.tape,h.output,Nat.le_trans (by simp) h.size,fun k hk hne=>(h.block k (by simp;omega) hne).trans (Below.heap_alloc W ob k (by omega))⟩
theorem wpList_app_lit (t e:TypeId)(z:Value)(size bytes:Nat)(ht:P.underlying t=some (.slice e))(hinfo:(P.info? e).map (fun i=>(i.zero,i.size,i.bytes))=some (some z,size,bytes))(hzs:z.cells.size=size)(hsz:0<size)
  (hgd:o.guard=none)(s x:Operand)(ho:o.op=.call { callee:=.builtin .append,args:=#[s,x],argTypes:=#[t,t] })
  (B:Nat)(v:Value)(n:Nat)(xs:List Value)(W:World)(C:Array Value)(m:Nat)(hs:a.eval s=v)(hx:a.eval x=.slice (some ⟨W.heap.size,0,none⟩) m m)
  (hown:W.ownsRow B e size v n xs)(hC:C.size=m*size)(h1:∀u∈C.toList,u.oneCell'=true)(hb:(n+m)*bytes≤140737488355328)(hn:n+m≤140737488355328)(hB:B≤W.heap.size)
  (h:∀v' w',w'.ownsRow B e size v' (n+m) (xs++C.toList)→W.grownBy w' v.ownBlock→wpList P ops Q rest (a.put o.dst v') w') :
  wpList P ops Q (o::rest) a (W.alloc (.cells C e)):=by
 obtain⟨i,hi,hz0,hz1,hz2⟩:=info_parts hinfo;refine wpList_append_own _ hgd s x t ho B e i z size bytes ht hi hz0 hz1 hz2 hzs hsz v n xs hs (hown.alloc _) ⟨W.heap.size,0,none⟩ m m C.toList hx (by simpa using hC) ?_ h1 (by unfold maxLen;omega) hb (by simp;omega) ?_
 ·intro j u hj
  rw[add_plain,Nat.zero_add,World.cell?_alloc_mark];simpa using hj
 ·intro v' w' h2 h3 _
  exact h v' w' h2 (grown_of_alloc h3)
end
section
variable {P:Program} {ops:Array Oper} {rest:List Oper} {o:Oper} {a:Act} {Q:Exit→Act→World→Prop}
theorem wpList_mk0 (w:World)(t e:TypeId)(z:Value)(size bytes:Nat)(ht:P.underlying t=some (.slice e))(hinfo:(P.info? e).map (fun i=>(i.zero,i.size,i.bytes))=some (some z,size,bytes))
  (hgd:o.guard=none)(l c:Operand)(hop:o.op=Op.makeSlice t l c)(B:Nat)(kl kc:IntKind)(n:Nat)(hl:a.eval l=.int kl 0)(hc:a.eval c=.int kc (n:Int))
  (hb:bytes*n≤281474976710656)(hn:n≤9223372036854775807)(hB:B≤w.heap.size)
  (h:∀w',w'.ownsRow B e size (.slice (some ⟨w.heap.size,0,none⟩) 0 n) 0 []→w.grownBy w' none→wpList P ops Q rest (a.put o.dst (.slice (some ⟨w.heap.size,0,none⟩) 0 n)) w') :
  wpList P ops Q (o::rest) a w:=by
 obtain⟨i,hi,hz0,hz1,hz2⟩:=info_parts hinfo;exact wpList_make_own w hgd l c t hop B e i z size ht hi hz0 hz1 kl kc _ n hl hc rfl (by rw[hz2];exact hb) (by unfold maxLen;omega) hB h
theorem wpList_mkn (w:World)(t e:TypeId)(z:Value)(size bytes:Nat)(ht:P.underlying t=some (.slice e))(hinfo:(P.info? e).map (fun i=>(i.zero,i.size,i.bytes))=some (some z,size,bytes))
  (hgd:o.guard=none)(l c:Operand)(hop:o.op=Op.makeSlice t l c)(B:Nat)(kl kc:IntKind)(n:Nat)(hl:a.eval l=.int kl (n:Int))(hc:a.eval c=.int kc (n:Int))
  (hb:bytes*n≤281474976710656)(hn:n≤9223372036854775807)(hB:B≤w.heap.size)
  (h:∀w',w'.ownsRow B e size (.slice (some ⟨w.heap.size,0,none⟩) n n) n (madeCells z.cells (n*size)).toList→w.grownBy w' none→wpList P ops Q rest (a.put o.dst (.slice (some ⟨w.heap.size,0,none⟩) n n)) w') :
  wpList P ops Q (o::rest) a w:=by
 obtain⟨i,hi,hz0,hz1,hz2⟩:=info_parts hinfo;exact wpList_make_full w hgd l c t hop B e i z size ht hi hz0 hz1 kl kc _ _ n hl hc rfl rfl (by rw[hz2];exact hb) (by unfold maxLen;omega) hB h
end
theorem bel_grown {w a b:World}{row:Option Nat}(h:Below w.heap.size w a)(hg:a.grownBy b row)(hr:∀k,row=some k→w.heap.size≤k):Below w.heap.size w b:=h.grown hg h.size hr
theorem grown_keep {a b:World}{row:Option Nat}(hg:a.grownBy b row){k:Nat}{ob:Obj}(h:a.heap[k]?=some ob)(hne:some k≠row):b.heap[k]?=some ob:=
 (hg.block k (Array.getElem?_eq_some_iff.1 h).1 hne).trans h
theorem own_ne_iter {w:World}{base:Nat}{e:TypeId}{size n:Nat}{v:Value}{xs:List Value}(h:w.ownsRow base e size v n xs){k:Nat}{s:ByteArray}{p:Nat}(hk:w.heap[k]?=some (.stringIter s p)):some k≠v.ownBlock:=by
 rcases h.2 with ⟨rfl,_⟩|⟨g,cap,cur,rfl,_,hh,_⟩
 ·simp[Value.ownBlock]
 ·intro he
  have:k=g:=(by simpa[Value.ownBlock] using he);rw[this,hh]at hk;cases hk
theorem own_iterAt {w:World}{base:Nat}{e:TypeId}{size n:Nat}{v:Value}{xs:List Value}(h:w.ownsRow base e size v n xs){k:Nat}{s:ByteArray}{p:Nat}(hk:w.heap[k]?=some (.stringIter s p))(q:Nat):(w.iterAt k s q).ownsRow base e size v n xs:=by
 have hne:=own_ne_iter h hk;refine⟨h.1,?_⟩;rcases h.2 with hn|⟨g,cap,cur,rfl,hb,hh,rest⟩
 ·exact .inl hn
 ·exact .inr ⟨g,cap,cur,rfl,hb,(Lib.iterAt_other w k g s q (fun e=>hne (by simp[Value.ownBlock,e]))).trans hh,rest⟩
theorem iterPos_of {w:World}{k:Nat}{s:ByteArray}{p:Nat}(h:w.heap[k]?=some (.stringIter s p)):w.iterPos k=p:=by simp[World.iterPos,h]
def Hd (p:Prop):Prop:=∀_:Unit,p
theorem hd {p:Prop}(h:p):Hd p:=fun _=>h
theorem Hd.o {p:Prop}(h:Hd p):p:=h ()
def Appd (B:Nat)(e:TypeId)(size:Nat)(w:World)(v:Value)(n:Nat)(xs:List Value)(m:Nat)(news:List Value)(en:Ending)(w':World):Prop:=
 ∃v',en=.returned v'∧w'.ownsRow B e size v' (n+m) (xs++news)∧w.grownBy w' v.ownBlock
def cellsB (l:List UInt8):List Value:=l.map (fun b=>Value.int .u8 (b.toNat:Int))
theorem cellsB_app (l r:List UInt8):cellsB (l++r)=cellsB l++cellsB r:=by simp[cellsB]
theorem cellsB_len (l:List UInt8):(cellsB l).length=l.length:=by simp[cellsB]
end Go.Proofs.YtieknenhfeejiaaGreatDoor
namespace Go.Proofs.YtieknenhfeejiaaGreatDoor
open Go.RowKit
def Rd (w:World)(A:Option Addr)(xs:List Value):Prop:=
 ∀k (h:k<xs.length),∃b off,A=some ⟨b,off,none⟩∧w.cell? ⟨b,off+k,none⟩=some (xs[k]'h)
def IsL (size:Nat)(w:World)(v:Value)(n:Nat)(xs:List Value):Prop:=
 xs.length=n*size∧∃A c,v=.slice A n c∧Rd w A xs
theorem Rd.head {w:World}{A:Option Addr}{xs:List Value}(h:Rd w A xs)(h0:0<xs.length) :
  ∃b off,A=some ⟨b,off,none⟩∧b<w.heap.size∧∀k (h:k<xs.length),w.cell? ⟨b,off+k,none⟩=some (xs[k]'h):=by
 obtain⟨b,off,rfl,c⟩:=h 0 h0;refine⟨b,off,rfl,World.block_lt_of_cell? w _ c,fun k hk=>?_⟩;obtain⟨b',off',e,c'⟩:=h k hk;simp only[Option.some.injEq,Addr.mk.injEq,and_true]at e;obtain⟨rfl,rfl⟩:=e;exact c'
theorem Rd.below {w w':World}{A:Option Addr}{xs:List Value}(h:Rd w A xs)(hb:Below w.heap.size w w'):Rd w' A xs:=fun k hk=>by
 obtain⟨b,off,e,c⟩:=h k hk;exact⟨b,off,e,(hb.cell (p:=⟨b,off+k,none⟩) (World.block_lt_of_cell? w _ c)).trans c⟩
theorem IsL.below {size:Nat}{w w':World}{v:Value}{n:Nat}{xs:List Value}(h:IsL size w v n xs)(hb:Below w.heap.size w w'):IsL size w' v n xs:=by
 obtain⟨hl,A,c,e,r⟩:=h;exact⟨hl,A,c,e,r.below hb⟩
theorem IsL.nil (size:Nat)(w:World)(A:Option Addr)(c:Nat):IsL size w (.slice A 0 c) 0 []:=⟨by simp,A,c,rfl,fun k h=>absurd h (by simp)⟩
theorem IsL.own {w:World}{B:Nat}{e:TypeId}{size:Nat}{v:Value}{n:Nat}{xs:List Value}(h:w.ownsRow B e size v n xs):IsL size w v n xs:=by
 obtain⟨hl,h2⟩:=h;rcases h2 with ⟨rfl,rfl⟩|⟨g,cap,cur,rfl,hb,hg,h1,h3,h4,h5⟩
 ·exact⟨hl,none,0,rfl,fun k h=>absurd h (by omega)⟩
 ·refine⟨hl,some ⟨g,0,none⟩,cap,rfl,fun k hk=>⟨g,0,rfl,?_⟩⟩
  have ho:w.ownsRow B e size (.slice (some ⟨g,0,none⟩) n cap) n xs:=⟨hl,.inr ⟨g,cap,cur,rfl,hb,hg,h1,h3,h4,h5⟩⟩
  have:=ho.cellAt k (by omega);rw[Nat.zero_add,this,List.getElem?_eq_getElem hk]
theorem own_below {w w':World}{B:Nat}{e:TypeId}{size:Nat}{v:Value}{n:Nat}{xs:List Value}(h:w.ownsRow B e size v n xs)(hb:Below w.heap.size w w'):w'.ownsRow B e size v n xs:=by
 refine⟨h.1,?_⟩;rcases h.2 with hn|⟨g,cap,cur,rfl,hB,hg,rest⟩
 ·exact .inl hn
 ·exact .inr ⟨g,cap,cur,rfl,hB,(hb.block g (Array.getElem?_eq_some_iff.1 hg).1).trans hg,rest⟩
theorem own_mono {w:World}{B B':Nat}{e:TypeId}{size:Nat}{v:Value}{n:Nat}{xs:List Value}(h:w.ownsRow B e size v n xs)(hb:B'≤B):w.ownsRow B' e size v n xs:=by
 refine⟨h.1,?_⟩;rcases h.2 with hn|⟨g,cap,cur,rfl,hB,rest⟩
 ·exact .inl hn
 ·exact .inr ⟨g,cap,cur,rfl,by omega,rest⟩
theorem bel_drew {B:Nat}{a w:World}(h:Below B a w)(n:Nat):Below B a (w.drewN n):=⟨h.os,h.tape,h.output,h.size,h.block⟩
theorem take_succ_eq {α:Type}{xs ys:List α}{k:Nat}(h:xs.take k=ys.take k)(hx:k<xs.length)(hy:k<ys.length)(e:xs[k]=ys[k]):xs.take (k+1)=ys.take (k+1):=by
 rw[List.take_succ_eq_append_getElem hx,List.take_succ_eq_append_getElem hy,h,e]
theorem getElem_ne {α:Type}{xs ys:List α}{k:Nat}(hx:k<xs.length)(hy:k<ys.length)(e:xs[k]≠ys[k]):xs≠ys:=by
 rintro rfl;exact e rfl
section
variable {P:Program}
theorem run_app_any (w:World)(t ty e:TypeId)(z:Value)(size bytes:Nat)(ht:P.underlying t=some (.slice e))(hinfo:(P.info? e).map (fun i=>(i.zero,i.size,i.bytes))=some (some z,size,bytes))(hzs:z.cells.size=size)(hsz:0<size)
  (B:Nat)(v:Value)(n:Nat)(xs:List Value)(hown:w.ownsRow B e size v n xs)(x:Value)(m:Nat)(news:List Value)(hx:IsL size w x m news)(h1:∀u∈news,u.oneCell'=true)
  (hb:(n+m)*bytes≤140737488355328)(hn:n+m≤140737488355328)(hB:B≤w.heap.size) :
  ∃v' w',(Builtin.append_ #[t,t] ty #[v,x]).run P w=.ok v' w'∧w'.ownsRow B e size v' (n+m) (xs++news)∧w.grownBy w' v.ownBlock:=by
 obtain⟨i,hi,hz0,hz1,hz2⟩:=info_parts hinfo;obtain⟨hl,A,c,rfl,hr⟩:=hx;by_cases h0:news.length=0
 ·have hn0:news=[]:=List.eq_nil_of_length_eq_zero h0
  subst hn0;have hm:m=0:=by
   rcases Nat.eq_zero_or_pos m with h|h
   ·exact h
   ·have:=Nat.mul_pos h hsz
    simp at hl;omega
  subst hm;cases A with
  |none=>
   refine⟨v,w,?_,by simpa using hown,World.grownBy.refl w _⟩;rcases hown.2 with ⟨rfl,rfl⟩|⟨g,cap,cur,rfl,_,_,hnc,_⟩
   ·simp[Builtin.append_,run_underlying ht,sizeOf,typeInfo,hi,Builtin.lenOf,Builtin.firstCells]
   ·simp[Builtin.append_,run_underlying ht,sizeOf,typeInfo,hi,Builtin.lenOf,Builtin.firstCells,hnc,storeCells]
  |some ad=>
   obtain⟨v',w',hrun,h2,h3,_⟩:=run_append_own (P:=P) w B t ty e i z size bytes ht hi hz0 hz1 hz2 hzs hsz v n xs hown ad 0 c [] (by simp) (fun j u hj=>by simp at hj) (fun u hu=>by cases hu) (by unfold maxLen;omega) (by simpa using hb) hB;exact⟨v',w',hrun,h2,h3⟩
 ·obtain⟨b,off,rfl,_,hc⟩:=hr.head (by omega)
  obtain⟨v',w',hrun,h2,h3,_⟩:=run_append_own (P:=P) w B t ty e i z size bytes ht hi hz0 hz1 hz2 hzs hsz v n xs hown ⟨b,off,none⟩ m c news hl (fun j u hj=>by
   obtain⟨hj1,rfl⟩:=List.getElem?_eq_some_iff.1 hj;rw[add_plain];exact hc j hj1) h1 (by unfold maxLen;omega) hb hB
  exact⟨v',w',hrun,h2,h3⟩
theorem wp_app_any {o:Oper}{a:Act}{K:Act→World→Prop}{Q:Exit→Act→World→Prop}(w:World)(t e:TypeId)(z:Value)(size bytes:Nat)(ht:P.underlying t=some (.slice e))(hinfo:(P.info? e).map (fun i=>(i.zero,i.size,i.bytes))=some (some z,size,bytes))(hzs:z.cells.size=size)(hsz:0<size)
  (s x:Operand)(ho:o.op=.call { callee:=.builtin .append,args:=#[s,x],argTypes:=#[t,t] })
  (B:Nat)(v:Value)(n:Nat)(xs:List Value)(hs:a.eval s=v)(hown:w.ownsRow B e size v n xs)(y:Value)(m:Nat)(news:List Value)(hx:a.eval x=y)(hy:IsL size w y m news)(h1:∀u∈news,u.oneCell'=true)
  (hb:(n+m)*bytes≤140737488355328)(hn:n+m≤140737488355328)(hB:B≤w.heap.size)
  (h:∀v' w',w'.ownsRow B e size v' (n+m) (xs++news)→w.grownBy w' v.ownBlock→K (a.put o.dst v') w'):o.wp P a w K Q:=by
 obtain⟨v',w',hrun,h2,h3⟩:=run_app_any (P:=P) w t o.type e z size bytes ht hinfo hzs hsz B v n xs hown y m news hy h1 hb hn hB;unfold Oper.wp execOp;simp only[ho,resolve,invoke,builtin,Sem.run_bind,Sem.run_pure,Result.andThen_ok,List.map_toArray,List.map_cons,List.map_nil,hs,hx,hrun];exact h v' w' h2 h3
theorem wpList_wanted {ops:Array Oper}{rest:List Oper}{o:Oper}{a:Act}{w:World}{Q:Exit→Act→World→Prop}(hg:Region.wanted o (yielded ops a.tmps)=true)
  (h:∀K:Act→World→Prop,(∀a w,wpList P ops Q rest a w→K a w)→o.wp P a w K Q):wpList P ops Q (o::rest) a w:=
 wpList_step fun K hK=>by rw[if_pos hg];exact h K hK
theorem wpList_app_any {ops:Array Oper}{rest:List Oper}{o:Oper}{a:Act}{Q:Exit→Act→World→Prop}(w:World)(t e:TypeId)(z:Value)(size bytes:Nat)(ht:P.underlying t=some (.slice e))(hinfo:(P.info? e).map (fun i=>(i.zero,i.size,i.bytes))=some (some z,size,bytes))(hzs:z.cells.size=size)(hsz:0<size)
  (hg:Region.wanted o (yielded ops a.tmps)=true)(s x:Operand)(ho:o.op=.call { callee:=.builtin .append,args:=#[s,x],argTypes:=#[t,t] })
  (B:Nat)(v:Value)(n:Nat)(xs:List Value)(hs:a.eval s=v)(hown:w.ownsRow B e size v n xs)(y:Value)(m:Nat)(news:List Value)(hx:a.eval x=y)(hy:IsL size w y m news)(h1:∀u∈news,u.oneCell'=true)
  (hb:(n+m)*bytes≤140737488355328)(hn:n+m≤140737488355328)(hB:B≤w.heap.size)
  (h:∀v' w',w'.ownsRow B e size v' (n+m) (xs++news)→w.grownBy w' v.ownBlock→wpList P ops Q rest (a.put o.dst v') w'):wpList P ops Q (o::rest) a w:=
 wpList_wanted hg fun _ hK=>wp_app_any w t e z size bytes ht hinfo hzs hsz s x ho B v n xs hs hown y m news hx hy h1 hb hn hB fun v' w' h2 h3=>hK _ _ (h v' w' h2 h3)
end
end Go.Proofs.YtieknenhfeejiaaGreatDoor
