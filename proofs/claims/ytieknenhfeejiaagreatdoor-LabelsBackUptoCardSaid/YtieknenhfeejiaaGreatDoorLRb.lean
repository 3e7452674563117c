/- The text of a set, in plain lists. No function of the program in sight. slice .. -/
import Derived.Test.YtieknenhfeejiaaGreatDoorLRefMake
import Derived.Shelf.SlSortCmp.WholeK
import Derived.Shelf.SlSortCmp.NoneTotal
import Derived.Ground.SlsfProg
import Derived.Maps.OwnSet
import Derived.Shelf.Strings.Builder1
import Derived.BigRegion
import Derived.WalkMore
import Derived.ScopeJumps
set_option maxRecDepth 100000
set_option maxHeartbeats 4000000
set_option linter.unusedVariables false
set_option linter.unusedSimpArgs false
namespace Go.Proofs.YtieknenhfeejiaaGreatDoor
open _root_.Go.Proofs.Tryz
namespace L
theorem withGo_drop (n v:ByteArray):∀l:List Lb,withGo n v true l=l.filter (fun x=>decide (x.1≠n))
 |[]=>rfl
 |x::r=>by
  unfold withGo;by_cases h:x.1=n
  ·rw[if_pos h,withGo_drop n v r,List.filter_cons_of_neg (by simp[h])]
  ·rw[if_neg h,if_neg (by simp),withGo_drop n v r,List.filter_cons_of_pos (by simp[h])]
theorem withL_drop (n:ByteArray)(l:List Lb):withL l n ⟨#[]⟩=l.filter (fun x=>decide (x.1≠n)):=by
 unfold withL;rw[show (⟨#[]⟩:ByteArray).toList.isEmpty=true from by rw[ByteArray.toList_eq];rfl];exact withGo_drop n _ l
def ahB (l:List Lb):Bool:=SC.isMet (get SC.nmB l)
def inA (a:Bool)(l:List Lb):List Lb:=if a then l.filter (fun x=>decide (x.1≠SC.nmB)) else l
def hdT (a:Bool)(nm:ByteArray):List UInt8:=if a then nm.data.toList else []
def tw (P:List Lb):List UInt8:=if P=[] then [] else 123::SC.bodyT P
def sepB (P:List Lb):List UInt8:=if P=[] then [123] else [44,32]
def tl (a:Bool)(P:List Lb):List UInt8:=if P=[] then(if a then [] else [123,125]) else [125]
def textL (l:List Lb):List UInt8:=if vld l then hdT (ahB l) (get SC.nmB l)++(tw (inA (ahB l) l)++tl (ahB l) (inA (ahB l) l)) else []
def text (l:List Lb):ByteArray:=⟨(textL l).toArray⟩
theorem bodyT_snoc:∀(P:List Lb) (x:Lb),P≠[]→SC.bodyT (P++[x])=SC.bodyT P++([44]++([32]++SC.pc x))
 |[],_,h=>absurd rfl h
 |[y],x,_=>rfl
 |y::z::r,x,_=>by
  show SC.pc y++([44]++([32]++SC.bodyT ((z::r)++[x])))=(SC.pc y++([44]++([32]++SC.bodyT (z::r))))++_
  rw[bodyT_snoc (z::r) x (by simp)];simp only[List.append_assoc]
theorem tw_snoc (P:List Lb)(x:Lb):tw (P++[x])=tw P++(sepB P++SC.pc x):=by
 unfold tw sepB;rw[if_neg (by simp)];by_cases h:P=[]
 ·rw[if_pos h,if_pos h,h];rfl
 ·rw[if_neg h,if_neg h,bodyT_snoc P x h];simp
theorem inA_nil (a:Bool):inA a []=[]:=by cases a<;>rfl
theorem inA_skip {l:List Lb}{k:Nat}(hk:k<l.length){a:Bool}(ha:a=true)(h:(l[k]'hk).1=SC.nmB):inA a (l.take (k+1))=inA a (l.take k):=by
 subst ha;unfold inA;rw[if_pos rfl,if_pos rfl,List.take_succ_eq_append_getElem hk,List.filter_append];simp[h]
theorem inA_put {l:List Lb}{k:Nat}(hk:k<l.length){a:Bool}(h:a=true→(l[k]'hk).1≠SC.nmB):inA a (l.take (k+1))=inA a (l.take k)++[l[k]'hk]:=by
 unfold inA;rw[List.take_succ_eq_append_getElem hk];cases a with
 |false=>rw[if_neg (by decide),if_neg (by decide)]
 |true=>
  rw[if_pos rfl,if_pos rfl,List.filter_append];have:=h rfl;simp[this]
theorem inA_len (a:Bool)(l:List Lb):(inA a l).length≤l.length:=by
 unfold inA;split
 ·exact List.length_filter_le _ _
 ·exact Nat.le_refl _
theorem inA_mem {a:Bool}{l:List Lb}{x:Lb}(h:x∈inA a l):x∈l:=by
 unfold inA at h;split at h
 ·exact(List.mem_filter.1 h).1
 ·exact h
theorem qv_len (v:ByteArray):(SC.qv v).length≤6*v.size+2:=by
 have:=U.flat_len U.wrQ U.wrQ_len v.data.toList;unfold SC.qv;rw[Lib.size_eq,List.cons_append,List.length_cons,List.length_append,List.length_singleton];omega
theorem pc_len (x:Lb)(h:x.1.size≤1048576∧x.2.size≤1048576):(SC.pc x).length≤8388605:=by
 have:=qv_len x.2;unfold SC.pc;rw[List.length_append,List.length_append,←Lib.size_eq,List.length_singleton];omega
theorem bodyT_len1:∀(x:Lb) (r:List Lb),(∀y∈x::r,y.1.size≤1048576∧y.2.size≤1048576)→(SC.bodyT (x::r)).length+1≤8388607*(r.length+1)
 |x,[],h=>by
  have:=pc_len x (h x (by simp));show (SC.pc x).length+1≤_
  simp;omega
 |x,y::r,h=>by
  have h1:=pc_len x (h x (by simp));have h2:=bodyT_len1 y r (fun z hz=>h z (List.mem_cons_of_mem _ hz));show (SC.pc x++([44]++([32]++SC.bodyT (y::r)))).length+1≤_
  simp only[List.length_append,List.length_cons,List.length_nil]at h2 ⊢;omega
theorem tw_len (P:List Lb)(h:∀x∈P,x.1.size≤1048576∧x.2.size≤1048576):(tw P).length≤8388607*P.length:=by
 cases P with
 |nil=>simp[tw]
 |cons x r=>
  have:=bodyT_len1 x r h;unfold tw;rw[if_neg (by simp),List.length_cons,List.length_cons];exact this
theorem get_len:∀(l:List Lb) (n:ByteArray),(∀x∈l,x.1.size≤1048576∧x.2.size≤1048576)→(get n l).size≤1048576
 |[],_,_=>by show (⟨#[]⟩:ByteArray).size≤_;decide
 |x::r,n,h=>by
  unfold get;split
  ·exact(h x (by simp)).2
  ·exact get_len r n (fun y hy=>h y (List.mem_cons_of_mem _ hy))
theorem text_cT {l:List Lb}(hv:vld l=true):textL l=SC.cT (if ahB l then some (get SC.nmB l) else none) (inA (ahB l) l):=by
 unfold textL;rw[if_pos hv];cases ahB l with
 |false=>
  unfold SC.cT hdT tw tl;by_cases h:inA false l=[]
  ·rw[h];rfl
  ·simp[h]
 |true=>
  unfold SC.cT hdT tw tl;by_cases h:inA true l=[]
  ·simp[h]
  ·simp[h]
end L
end Go.Proofs.YtieknenhfeejiaaGreatDoor
namespace Go.Proofs
open Go.Shelf
shelf_lay_g SlLaysF0.n6 Slsf 6 at Tryz 46 as Tryz.sortLb
namespace YtieknenhfeejiaaGreatDoor
open _root_.Go.Proofs.Tryz
open Go.RowKit Go.Sort
def encL (x:Lb):List Value:=[.string x.1,.string x.2]
theorem flat_cells (d:Array Lb):(flatK encL 2 d).toList=cellsL d.toList:=by
 apply List.ext_getElem?;intro t;have hs:(flatK encL 2 d).toList.length=d.size*2:=(by simp);have hc:(cellsL d.toList).length=d.size*2:=(by rw[cellsL_len];simp);by_cases ht:t<d.size*2
 ·have h1:=get_flatK encL 2 d t ht
  have hq:t/2<d.size:=(by omega);have hq2:t/2<d.toList.length:=(by simpa using hq);obtain⟨e1,e2⟩:=cellsL_at d.toList (t/2) hq2;have hd:d[t/2]! = d.toList[t/2]'hq2:=(by rw[getElem!_pos d _ hq];simp);have hl:(flatK encL 2 d).toList[t]?=some ((flatK encL 2 d)[t]!):=by
   rw[List.getElem?_eq_getElem (by rw[hs];exact ht),getElem!_pos _ t (by rw[size_flatK];exact ht)];simp
  rw[hl,h1,hd];generalize d.toList[t/2]'hq2=x at *;rcases Nat.mod_two_eq_zero_or_one t with h0|h0
  ·have:t/2*2=t:=by omega
   rw[this]at e1;rw[e1,h0];rfl
  ·have:t/2*2+1=t:=by omega
   rw[this]at e2;rw[e2,h0];rfl
 ·rw[List.getElem?_eq_none (by rw[hs];omega),List.getElem?_eq_none (by rw[hc];omega)]
theorem ltOf_name (x y:Lb):ltOf (fun x y:Lb=>L.ord x.1 y.1) x y=L.lt x.1 y.1:=by
 unfold ltOf;cases h:L.lt x.1 y.1 with
 |true=>simpa using L.ord_lt.2 h
 |false=>
  have:¬ L.ord x.1 y.1<0:=fun e=>by rw[L.ord_lt.1 e]at h;cases h
  simpa using this
theorem swoName:SWO (ltOf fun x y:Lb=>L.ord x.1 y.1) where
 irrefl x:=by rw[ltOf_name];exact L.lt_irrefl _
 trans x y z h1 h2:=by rw[ltOf_name]at *;exact L.lt_trans h1 h2
 ntrans x y z h1 h2:=by
  rw[ltOf_name]at *;rw[Bool.eq_false_iff];intro h;by_cases e:y.1=x.1
  ·rw[e,h]at h2;cases h2
  ·have:=L.lt_trans (L.lt_of_ne (Ne.symm e) h1) h
   rw[this]at h2;cases h2
theorem closureMk (x y:Lb)(W:World):Calls prog 47 #[.agg #[.string x.1,.string x.2],.agg #[.string y.1,.string y.2]] W fun e w'=>e=.returned (.int .i64 (L.ord x.1 y.1))∧∃q os',w'=grow (W.drewN q) os':=by
 have hcon:=hd fun W'=>cmpS_any x.1 y.1 W'
 generalize L.ord x.1 y.1=r at hcon ⊢;go_enter func47,ntmps47;go_wp2_with (go_at_call 48;refine(hcon.o _).mono ?_;rintro e w' ⟨rfl,rfl⟩)
 go_ret;exact⟨rfl,0,_,by rw[alloc_eq_grow,alloc_eq_grow,grow_grow];rfl⟩
theorem cmpLaysMk (blk off size:Nat)(w:World):CmpLays prog 47 #[] encL 2 (fun x y=>L.ord x.1 y.1) blk off size w:=
 fun _ _ _ _ x y=>closureMk x y _
theorem own_sorted {w:World}{B g c:Nat}{O:List Lb}(h:w.ownsRow B 35 2 (.slice (some ⟨g,0,none⟩) O.length c) O.length (cellsL O)) :
  HoldsK encL 2 w g 0 O.toArray∧∀(d':Array Lb) (n:Nat) (os:Array Obj),d'.size=O.length→(sortWorldK encL 2 w g 0 n d' os).ownsRow B 35 2 (.slice (some ⟨g,0,none⟩) O.length c) O.length (cellsL d'.toList)∧w.grownBy (sortWorldK encL 2 w g 0 n d' os) (some g):=by
 have hlt:=h.lt g rfl
 constructor
 ·intro j hj
  have hj2:j<(cellsL O).length:=(by rw[cellsL_len];simpa using hj);rw[Nat.zero_add,h.cellAt j (by rw[cellsL_len]at hj2;exact hj2)];refine⟨?_,h.frozenAt j⟩;have:=flat_cells O.toArray;have e:(flatK encL 2 O.toArray)[j]! = (cellsL O)[j]'hj2:=by
   rw[getElem!_pos _ j hj,←Array.getElem_toList];simp only[this]
  rw[List.getElem?_eq_getElem hj2,e];rfl
 ·intro d' n os hd'
  rcases h.2 with ⟨h',_⟩|⟨g',cap,cur,h',hB,hg,h1,h2,h3,h4⟩
  ·simp at h'
  ·simp only[Value.slice.injEq,Option.some.injEq,Addr.mk.injEq,and_true,true_and]at h'
   obtain⟨rfl,rfl⟩:=h';have hF:(flatK encL 2 d').size=O.length*2:=(by rw[size_flatK,hd']);have hblk:(sortWorldK encL 2 w g 0 n d' os).heap[g]?=some (.cells (putCells id 0 (flatK encL 2 d') cur) 35 (0,0)):=by
    unfold sortWorldK putRowK putRow grow mapBlock;show ((w.heap.modify g _)++os)[g]?=_
    rw[Array.getElem?_append_left (by simpa using hlt.2),Array.getElem?_modify,if_pos rfl,hg];rfl
   refine⟨⟨by rw[cellsL_len];simp[hd'],.inr ⟨g,c,_,rfl,hB,hblk,h1,h2,by simpa[putCells] using h3,?_⟩⟩,?_⟩
   ·apply List.ext_getElem?
    intro j;rw[List.getElem?_take];by_cases hj:j<O.length*2
    ·rw[if_pos hj,←flat_cells,Array.getElem?_toList,Array.getElem?_toList]
     unfold putCells;have hjc:j<cur.size:=(by rw[h3];have:=Nat.mul_le_mul_right 2 h1;omega);rw[Array.getElem?_mapIdx,Array.getElem?_eq_getElem hjc,Option.map_some,if_pos ⟨Nat.zero_le _,by rw[hF];omega⟩,Nat.sub_zero,Array.getElem?_eq_getElem (by rw[hF];exact hj),getElem!_pos _ j (by rw[hF];exact hj)];rfl
    ·rw[if_neg hj,List.getElem?_eq_none (by rw[cellsL_len];simp[hd'];omega)]
   ·refine⟨rfl,rfl,rfl,?_,fun k hk hne=>?_⟩
    ·unfold sortWorldK putRowK;simp[Sort.ahead]
    ·have hkg:g≠k:=fun e=>hne (by rw[e])
     unfold sortWorldK putRowK putRow grow mapBlock;show ((w.heap.modify g _)++os)[k]?=_
     rw[Array.getElem?_append_left (by simpa using hk),Array.getElem?_modify,if_neg hkg]
theorem sortLb_any (w:World)(B n:Nat)(v:Value)(O:List Lb)(h:w.ownsRow B 35 2 v n (cellsL O))(hn:n≤4398046510976) :
  Calls prog 46 #[v,.func (.func 47) #[] #[]] w fun e w'=>e=.returned (.tuple #[])∧∃O',O'.Perm O∧O'.Pairwise (fun x y=>L.lt y.1 x.1=false)∧w'.ownsRow B 35 2 v n (cellsL O')∧w.grownBy w' v.ownBlock:=by
 have hlen:O.length=n:=(by have:=h.1;rw[cellsL_len]at this;omega);subst hlen;by_cases h0:O.length=0
 ·have hnil:O=[]:=List.eq_nil_of_length_eq_zero h0
  subst hnil;obtain⟨A,c,rfl⟩:=own_shape h;have hS:=fun W=>AnyF.slices_SortFunc_none (P:=prog) (ρ:=Tryz.sortLb_ren) { Tryz.sortLb with } A c (.func (.func 47) #[] #[]) W
  change ∀W,Calls prog 46 _ _ _ at hS
  refine(hS w).mono ?_;rintro e w' ⟨rfl,rfl⟩;exact⟨rfl,[],List.Perm.refl _,List.Pairwise.nil,h,World.grownBy.refl _ _⟩
 ·obtain⟨A,c,rfl⟩:=own_shape h
  rcases h.2 with ⟨h',e'⟩|⟨g,cap,cur,h',hB,hg,h1,h2,h3,h4⟩
  ·exact absurd e' h0
  simp only[Value.slice.injEq,true_and]at h';obtain⟨rfl,rfl⟩:=h';obtain⟨hH,hW⟩:=own_sorted h;have eg:∀args w,(callFunc 47 args).run prog w=.ok (.enter 47 args) w:=enters_of func47 (by kernel_rfl) rfl
  have hlt:=(h.lt g rfl).2;have hcon:=AnyQ.slices_SortFunc Tryz.sortLb 2 Tryz.isAgg35 Tryz.sizeOf35 encL (fun _=>rfl) (fun x v hv=>by simp[encL]at hv;rcases hv with rfl|rfl<;>rfl) (fun x y=>L.ord x.1 y.1) swoName 47 #[] g 0 c O.toArray w eg (cmpLaysMk g 0 _ w) hH hlt (by simp;omega)
  change Calls prog 46 _ _ _ at hcon
  refine hcon.mono ?_;rintro e w' ⟨rfl,d',q,os,hp,hs,rfl⟩;have hsz:d'.size=O.length:=(by simpa using hp.1);obtain⟨hO,hgr⟩:=hW d' q os hsz;refine⟨rfl,d'.toList,?_,?_,hO,hgr⟩
  ·have:=hp.2.2
   have t1:(d'.extract 0 O.toArray.size).toList=d'.toList:=(by rw[show O.toArray.size=d'.size by simp[hsz]];simp);have t2:(O.toArray.extract 0 O.toArray.size).toList=O:=(by simp);rw[t1,t2]at this;exact this
  ·rw[List.pairwise_iff_getElem]
   intro i j hi hj hij;have hi2:i<d'.size:=(by simpa using hi);have hj2:j<d'.size:=(by simpa using hj);have:=hs i j (Nat.zero_le _) hij (by simp;omega);rw[ltOf_name,getElem!_pos d' j hj2,getElem!_pos d' i hi2]at this;simpa using this
end YtieknenhfeejiaaGreatDoor
end Go.Proofs
namespace Go.Proofs.YtieknenhfeejiaaGreatDoor
open _root_.Go.Proofs.Tryz
open Go.RowKit Go.Maps
theorem KS:Keyed prog 9:=string_keyed underlying9
theorem zeroI (w:World):(zeroValue 3).run prog w=.ok (.int .i64 0) w:=by kernel_rfl
def skey (a:ByteArray):Lit:=.string a.data.toList
theorem skey_ne {a b:ByteArray}(h:a≠b):skey a≠skey b:=by
 intro e;unfold skey at e;apply h;have:a.data.toList=b.data.toList:=(by injection e);exact ByteArray.ext (Array.toList_inj.1 this)
theorem L.named_snoc (a:ByteArray)(x:Lb):∀l:List Lb,L.named a (l++[x])=(L.named a l ||decide (x.1=a))
 |[]=>by simp[L.named]
 |y::r=>by
  simp only[List.cons_append,L.named];by_cases h:y.1=a
  ·rw[if_pos h,if_pos h];rfl
  ·rw[if_neg h,if_neg h,L.named_snoc a x r]
structure Seen (D:DataW Unit)(l:List Lb):Prop where
 m:Maps.IsMap D
 has:∀a,Maps.has D (skey a)=L.named a l
theorem Seen.nil:Seen (.map []) []:=⟨Maps.isMap_empty,fun a=>rfl⟩
theorem Seen.put {D:DataW Unit}{l:List Lb}(h:Seen D l)(x:Lb)(d:DataW Unit):Seen (D.put (skey x.1) d) (l++[x]):=by
 refine⟨h.m.put _ _,fun a=>?_⟩;rw[L.named_snoc];by_cases e:x.1=a
 ·subst e
  rw[Maps.has_put_same h.m (by trivial)];simp
 ·rw[Maps.has_put_other (skey_ne (Ne.symm e)),h.has];simp[e]
theorem map_below {w w':World}{b n:Nat}{D:DataW Unit}{R:Value→Option (DataW Unit×List MemPlace)}(h:w.ownsMap prog 9 R b n D)(hb:Below w.heap.size w w'):w'.ownsMap prog 9 R b n D:=by
 obtain⟨es,clock,hh,rest⟩:=h;exact⟨es,clock,(hb.block b (Array.getElem?_eq_some_iff.1 hh).1).trans hh,rest⟩
theorem own_ne_map {w:World}{B:Nat}{e:TypeId}{size m:Nat}{v:Value}{xs:List Value}(ho:w.ownsRow B e size v m xs){b n:Nat}{D:DataW Unit}{R:Value→Option (DataW Unit×List MemPlace)}(h:w.ownsMap prog 9 R b n D):v.ownBlock≠some b:=by
 obtain⟨es,clock,hh,_⟩:=h;rcases ho.2 with ⟨rfl,_⟩|⟨g,cap,cur,rfl,_,hg,_⟩
 ·simp[Value.ownBlock]
 ·intro he
  have:g=b:=(by simpa[Value.ownBlock] using he);rw[this,hh]at hg;cases hg
namespace L
theorem full_snoc (l:List Lb)(x:Lb):full (l++[x])=full l++(if x.2.toList.isEmpty then [] else [x]):=by
 unfold full;rw[List.filter_append];cases h:x.2.toList.isEmpty<;>simp[h]
theorem full_len (l:List Lb):(full l).length≤l.length:=List.length_filter_le _ _
theorem mkErrP_dist:∀(r b:List Lb),mkErrP b r=0→b.Pairwise (fun x y=>x.1≠y.1)→(b++r).Pairwise (fun x y=>x.1≠y.1)
 |[],b,_,hb=>by simpa using hb
 |x::r,b,h,hb=>by
  unfold mkErrP at h;split at h
  ·rename_i h1
   split at h
   ·rw[show b++x::r=(b++[x])++r by simp]
    refine mkErrP_dist r (b++[x]) h (List.pairwise_append.2 ⟨hb,List.pairwise_singleton ..,fun a ha y hy=>?_⟩);rw[List.mem_singleton]at hy;subst hy;intro e;simp only[Bool.and_eq_true,Bool.not_eq_true']at h1;have:=(named_iff y.1 b).2 ⟨a,ha,e⟩;rw[h1.2]at this;cases this
   ·cases h
  ·cases h
theorem mkErr_dist {l:List Lb}(h:mkErr l=0):l.Pairwise (fun x y=>x.1≠y.1):=by
 have:=mkErrP_dist l [] h List.Pairwise.nil;simpa using this
theorem sorted_made {l O:List Lb}(h:mkErr l=0)(hp:O.Perm (full l))(hs:O.Pairwise (fun x y=>lt y.1 x.1=false)):O=made l:=by
 have hd:=mkErr_dist h;obtain⟨q,s⟩:=mkL_spec l hd;unfold made;rw[if_pos h];refine srt_ext ?_ s (hp.trans q.symm);have hfd:(full l).Pairwise (fun x y=>x.1≠y.1):=List.Pairwise.filter _ hd;have hod:O.Pairwise (fun x y=>x.1≠y.1):=(hp.pairwise_iff (fun h=>Ne.symm h)).2 hfd;refine List.Pairwise.imp₂ (fun a b h1 h2=>?_) hs hod;exact lt_of_ne (Ne.symm h2) h1
end L
theorem make_any (A:Option Addr)(n c:Nat)(l:List Lb)(w:World)(hl:IsL 2 w (.slice A n c) n (cellsL l))(hn:n≤4398046510976)(hS:∀y∈l,y.1.size≤1125899906842624∧y.2.size≤1125899906842624) :
  Calls prog 16 #[.slice A n c] w fun e w'=>∃x,e=.returned (.tuple #[x,.int .i64 (L.mkErr l)])∧w'.ownsRow w.heap.size 35 2 x (L.made l).length (cellsL (L.made l))∧Below w.heap.size w w':=by
 have hll:=IsLb.len hl;have HL:=hd hl;have HLL:=hd hll;have HS:=hd hS;clear hl hll hS;have hmm:∀(w:World) (k:Int),(Instr.makeMap 78 (some (.int .i64 k))).run prog w=.ok (.map (some w.heap.size)) (w.alloc (.map #[] 0)):=fun w k=>by
  simp[Instr.makeMap,run_underlying underlying78,asInt,asIntOf]
 go_enter func16,ntmps16;go_wp2_with (at_make;refine wpList_mk0 _ 36 35 (.agg #[.string ⟨#[]⟩,.string ⟨#[]⟩]) 2 32 underlying36 info_label rfl _ _ rfl w.heap.size _ _ n rfl rfl ?b1 ?b2 ?b3 ?_)
 case b1=>omega
 case b2=>omega
 case b3=>simp
 intro w2 ho hg;have hM0:w2.ownsMap prog 9 (plainElem prog 3) w.heap.size 0 (.map []:DataW Unit):=(World.ownsMap_made w prog 9 (plainElem prog 3)).kept hg (by simp);have hb2:Below w.heap.size w w2:=bel_grown ((Below.refl _ _).alloc (Nat.le_refl _) _) hg (fun k h=>by cases h);clear hg hmm;go_wp2
 go_loopw [5,18] (fun o x wr=>∃(k:Nat) (D:DataW Unit),k≤n∧x=.int .i64 k∧Hd (wr.ownsRow w.heap.size 35 2 o (L.full (l.take k)).length (cellsL (L.full (l.take k))))∧Hd (wr.ownsMap prog 9 (plainElem prog 3) w.heap.size k D∧Seen D (l.take k))∧Hd (L.mkErrP (l.take k) (l.drop k)=L.mkErr l)∧Hd (Below w.heap.size w wr)) (fun _ x _=>n-(intOf x).toNat)
 case atStart=>exact⟨0,.map [],Nat.zero_le _,rfl,hd ho,hd ⟨hM0,Seen.nil⟩,hd rfl,hd hb2⟩
 case round=>
  obtain⟨k,D,hk,rfl,HO,HM,hG,HB⟩:=hrel;have hzr:=HB.o.size;by_cases hlt:k<n
  ·have hkl:k<l.length:=by rw[HLL.o];exact hlt
   obtain⟨b,off,rfl,hbl,c1,c2⟩:=IsLb.at_ HL.o k hkl;have d1:=(HB.o.cell (p:=⟨b,off+k*2,none⟩) hbl).trans c1;have d2:=(HB.o.cell (p:=⟨b,off+k*2+1,none⟩) hbl).trans c2;obtain⟨hs1,hs2⟩:=HS.o _ (List.getElem_mem hkl);have HST:=hd (hG.o.symm.trans (L.mkErrP_step l k hkl));have HTK:=hd (List.take_succ_eq_append_getElem hkl);have hpl:(L.full (l.take k)).length≤k:=Nat.le_trans (L.full_len _) (List.length_take_le _ _);clear c1 c2 hG;generalize l[k]'hkl=x at *;obtain⟨x1,x2⟩:=x;simp only at d1 d2 hs1 hs2 HST
   have HBW:Hd (Below w.heap.size w (wr.alloc (.cells #[.string x1,.string x2] 35))):=hd (HB.o.alloc hzr _);have HOW:Hd ((wr.alloc (.cells #[.string x1,.string x2] 35)).ownsRow w.heap.size 35 2 u5 (L.full (l.take k)).length (cellsL (L.full (l.take k)))):=hd (HO.o.alloc _);have HMW:Hd ((wr.alloc (.cells #[.string x1,.string x2] 35)).ownsMap prog 9 (plainElem prog 3) w.heap.size k D∧Seen D (l.take k)):=hd ⟨HM.o.1.alloc _,HM.o.2⟩;have HGN:Hd (w.heap.size<wr.heap.size):=hd HM.o.1.lt;clear HO HM
   have hkey:Hd (keyOf prog 9 (.string x1)=some (skey x1)):=hd (WideMaps.keyOf_string_mk underlying9 (by unfold maxLen;omega));have LOOK:Hd (∀bb,L.named x1 (l.take k)=bb→Maps.has D (skey x1)=bb):=hd fun bb h=>(HMW.o.2.has x1).trans h
   cases h1:L.named x1 (l.take k) with
   |true=>
    have G:Hd (L.mkErr l=160):=hd (by rw[HST.o,h1];cases L.lab x1<;>rfl);have GM:Hd (L.made l=[]):=hd (by unfold L.made;rw[if_neg (by rw[G.o];decide)]);have HAS:=hd (LOOK.o _ h1);clear h1 HST LOOK;go_wp2_with (at_lookup;refine wpList_lookup_own_ok_int _ rfl _ _ 78 rfl 9 3 .i64 KS underlying78 underlying3 (zeroI _) w.heap.size k D rfl HMW.o.1 _ (skey x1) rfl hkey.o ?_;intro cc hat hwc;rw[HAS.o];clear hat hwc)
    go_ret2;exact⟨.slice none 0 0,ret_mk G.o.symm,by rw[GM.o];exact World.ownsRow_nil _ _ _ _,HBW.o⟩
   |false=>
    have HAS:=hd (LOOK.o _ h1);cases h2:L.lab x1 with
    |false=>
     have C1:=hd (fun w'=>by have h:=isLabel_any x1 w' hs1;rw[h2]at h;exact h);have G:Hd (L.mkErr l=160):=hd (by rw[HST.o,h1,h2];rfl);have GM:Hd (L.made l=[]):=hd (by unfold L.made;rw[if_neg (by rw[G.o];decide)]);clear h1 h2 HST LOOK;go_wp2_with (first|(at_lookup;refine wpList_lookup_own_ok_int _ rfl _ _ 78 rfl 9 3 .i64 KS underlying78 underlying3 (zeroI _) w.heap.size k D rfl HMW.o.1 _ (skey x1) rfl hkey.o ?_;intro cc hat hwc;rw[HAS.o];clear hat hwc)|(go_at_call 44;refine(C1.o _).mono ?_;rintro e w' ⟨rfl,rfl⟩))
     go_ret2;exact⟨.slice none 0 0,ret_mk G.o.symm,by rw[GM.o];exact World.ownsRow_nil _ _ _ _,HBW.o⟩
    |true=>
     have C1:=hd (fun w'=>by have h:=isLabel_any x1 w' hs1;rw[h2]at h;exact h);have CB:Hd ((wr.alloc (.cells #[.string x1,.string x2] 35)).cell? ⟨wr.heap.size,0,none⟩=some (.string x1)∧(wr.alloc (.cells #[.string x1,.string x2] 35)).cell? ⟨wr.heap.size,1,none⟩=some (.string x2)):=hd (by constructor<;>simp);cases h3:U.valid x2 with
     |false=>
      have C3:=hd (fun w'=>by have h:=Valid_any x2 w' hs2;rw[h3]at h;exact h);have G:Hd (L.mkErr l=4):=hd (by rw[HST.o,h1,h2,h3];rfl);have GM:Hd (L.made l=[]):=hd (by unfold L.made;rw[if_neg (by rw[G.o];decide)]);clear h1 h2 h3 HST LOOK
      go_wp2_with (first|(at_lookup;refine wpList_lookup_own_ok_int _ rfl _ _ 78 rfl 9 3 .i64 KS underlying78 underlying3 (zeroI _) w.heap.size k D rfl HMW.o.1 _ (skey x1) rfl hkey.o ?_;intro cc hat hwc;rw[HAS.o];clear hat hwc)|(go_at_call 44;refine(C1.o _).mono ?_;rintro e w' ⟨rfl,rfl⟩)|(go_at_call 45;refine(C3.o _).mono ?_;rintro e w3 ⟨rfl,hb⟩;have HB3:=hd (bel HBW.o hb);have HM3:=hd (map_below HMW.o.1 hb);have HO3:=hd (own_below HOW.o hb);have q1:=(hb.cell (p:=⟨wr.heap.size,0,none⟩) (by simp)).trans (CB.o).1;have q2:=(hb.cell (p:=⟨wr.heap.size,1,none⟩) (by simp)).trans (CB.o).2;clear hb))
      go_ret2;exact⟨.slice none 0 0,ret_mk G.o.symm,by rw[GM.o];exact World.ownsRow_nil _ _ _ _,HB3.o⟩
     |true=>
      have C3:=hd (fun w'=>by have h:=Valid_any x2 w' hs2;rw[h3]at h;exact h);have G:Hd (L.mkErrP (l.take (k+1)) (l.drop (k+1))=L.mkErr l):=hd (by rw[HST.o,h1,h2,h3];rfl);have WF:Hd ((Lit.int .i64 (k:Int)).wf=true):=hd (WalkArith.wf_i64 (by omega));have NEB:Hd (some wr.heap.size≠some w.heap.size):=hd (fun e=>by have h1:=HGN.o;have h2:wr.heap.size=w.heap.size:=Option.some.inj e;omega);have HSN:=hd (HMW.o.2.put (x1,x2) (.lit (.int .i64 (k:Int))));have HFS:=hd (L.full_snoc (l.take k) (x1,x2));rw[←HTK.o]at HSN HFS;clear h1 h2 h3 HST LOOK;cases h4:x2.toList.isEmpty with
      |true=>
       have hem:=empty_of h4;rw[h4]at HFS
       go_wp2_with (first|(at_lookup;refine wpList_lookup_own_ok_int _ rfl _ _ 78 rfl 9 3 .i64 KS underlying78 underlying3 (zeroI _) w.heap.size k D rfl HMW.o.1 _ (skey x1) rfl hkey.o ?_;intro cc hat hwc;rw[HAS.o];clear hat hwc)|(go_at_call 44;refine(C1.o _).mono ?_;rintro e w' ⟨rfl,rfl⟩)|(go_at_call 45;refine(C3.o _).mono ?_;rintro e w3 ⟨rfl,hb⟩;have HB3:=hd (bel HBW.o hb);have HM3:=hd (map_below HMW.o.1 hb);have HO3:=hd (own_below HOW.o hb);have q1:=(hb.cell (p:=⟨wr.heap.size,0,none⟩) (by simp)).trans (CB.o).1;have q2:=(hb.cell (p:=⟨wr.heap.size,1,none⟩) (by simp)).trans (CB.o).2;clear hb)|(at_mapUpdate;refine wpList_mapUpdate_own _ rfl _ _ _ 78 rfl 9 3 KS underlying78 _ w.heap.size k D rfl HM3.o (by unfold maxLen;omega) _ _ (skey x1) rfl rfl hkey.o _ [] (plainElem_int underlying3 WF.o) ?_;intro w4 hown4 hgr4;have HM4:=hd hown4;have HO4:=hd (HO3.o.kept hgr4 (.inr (own_ne_map HO3.o HM3.o)));have HB4:=hd (bel_grown HB3.o hgr4 (fun q h=>by cases h;exact Nat.le_refl _));have r1:=(hgr4.cell (a:=⟨wr.heap.size,0,none⟩) q1 NEB.o);have r2:=(hgr4.cell (a:=⟨wr.heap.size,1,none⟩) q2 NEB.o);clear hown4 hgr4 q1 q2))
       have HO5:Hd (w4.ownsRow w.heap.size 35 2 u5 (L.full (l.take (k+1))).length (cellsL (L.full (l.take (k+1))))):=hd (by rw[HFS.o,if_pos trivial,List.append_nil];exact HO4.o);go_roundw
       case rel=>exact⟨k+1,_,by omega,by go_num,HO5,hd ⟨HM4.o,HSN.o⟩,G,HB4⟩
       case measure=>simp[intOf];omega
      |false=>
       have hem:=nonempty_of h4;rw[h4]at HFS
       go_wp2_with (first|(at_lookup;refine wpList_lookup_own_ok_int _ rfl _ _ 78 rfl 9 3 .i64 KS underlying78 underlying3 (zeroI _) w.heap.size k D rfl HMW.o.1 _ (skey x1) rfl hkey.o ?_;intro cc hat hwc;rw[HAS.o];clear hat hwc)|(go_at_call 44;refine(C1.o _).mono ?_;rintro e w' ⟨rfl,rfl⟩)|(go_at_call 45;refine(C3.o _).mono ?_;rintro e w3 ⟨rfl,hb⟩;have HB3:=hd (bel HBW.o hb);have HM3:=hd (map_below HMW.o.1 hb);have HO3:=hd (own_below HOW.o hb);have q1:=(hb.cell (p:=⟨wr.heap.size,0,none⟩) (by simp)).trans (CB.o).1;have q2:=(hb.cell (p:=⟨wr.heap.size,1,none⟩) (by simp)).trans (CB.o).2;clear hb)|(at_mapUpdate;refine wpList_mapUpdate_own _ rfl _ _ _ 78 rfl 9 3 KS underlying78 _ w.heap.size k D rfl HM3.o (by unfold maxLen;omega) _ _ (skey x1) rfl rfl hkey.o _ [] (plainElem_int underlying3 WF.o) ?_;intro w4 hown4 hgr4;have HM4:=hd hown4;have HO4:=hd (HO3.o.kept hgr4 (.inr (own_ne_map HO3.o HM3.o)));have HB4:=hd (bel_grown HB3.o hgr4 (fun q h=>by cases h;exact Nat.le_refl _));have r1:=(hgr4.cell (a:=⟨wr.heap.size,0,none⟩) q1 NEB.o);have r2:=(hgr4.cell (a:=⟨wr.heap.size,1,none⟩) q2 NEB.o);clear hown4 hgr4 q1 q2)|(at_builtin;refine wpList_app_litH 36 35 (.agg #[.string ⟨#[]⟩,.string ⟨#[]⟩]) 2 32 underlying36 info_label rfl (by decide) rfl _ _ rfl w.heap.size u5 (L.full (l.take k)).length (cellsL (L.full (l.take k))) _ #[.string x1,.string x2] 1 _ rfl rfl rfl (HO4.o) rfl (by simp[Value.oneCell']) (by omega) (by omega) HB4.o.size ?_))
       intro v5 w5 ho5 hg5;have HB5:=hd (bel_grown HB4.o hg5 (fun g h=>(HO4.o.lt g h).1));have HM5:=hd (HM4.o.kept hg5 (fun e=>own_ne_map HO4.o HM4.o e.symm));have HO5:Hd (w5.ownsRow w.heap.size 35 2 v5 (L.full (l.take (k+1))).length (cellsL (L.full (l.take (k+1))))):=hd <|by
        rw[HFS.o,if_neg (by simp),cellsL_app,List.length_append];simpa[cellsL] using ho5
       clear ho5 hg5;go_wp2;go_roundw
       case rel=>exact⟨k+1,_,by omega,by go_num,HO5,hd ⟨HM5.o,HSN.o⟩,G,HB5⟩
       case measure=>simp[intOf];omega
  ·have e:l.take k=l:=List.take_of_length_le (by rw[HLL.o];omega)
   have e2:l.drop k=[]:=List.drop_eq_nil_of_le (by rw[HLL.o];omega);have G:Hd (L.mkErr l=0):=hd (by rw[←hG.o,e2];rfl);have hfl:(L.full l).length≤n:=(by have:=L.full_len l;have:=HLL.o;omega);rw[e]at HO;clear e e2 hG HM;go_wp2_with (go_at_call 46;refine(sortLb_any _ w.heap.size (L.full l).length u5 (L.full l) HO.o (by omega)).mono ?_;rintro e w6 ⟨rfl,O',hp,hs,ho6,hg6⟩)
   have HE:=hd (L.sorted_made G.o hp hs);have HB6:=hd (bel_grown HB.o hg6 (fun g h=>(HO.o.lt g h).1));have HO6:=hd ho6;have HPL:=hd hp.length_eq;clear hp hs ho6 hg6;go_ret2;exact⟨_,ret_mk G.o.symm,by rw[←HE.o,HPL.o];exact HO6.o,HB6.o⟩
end Go.Proofs.YtieknenhfeejiaaGreatDoor
namespace Go.Proofs
open Go.Shelf
shelf_lay Lays.n169 Nm 169 at Tryz as Tryz.laysN169
namespace YtieknenhfeejiaaGreatDoor
open _root_.Go.Proofs.Tryz
open Go.RowKit
theorem bldX169:Builder.Extra prog Tryz.laysN169_ren where
 sizeBuilder:=by kernel_rfl
 liesBuilder:=by kernel_rfl
 t5:=underlying5
 a5:=Tryz.isAgg5
 z5:=Tryz.sizeOf5
 v5:=Tryz.zeroValue5
 infoByte:=by kernel_rfl
 cellsByte:=by kernel_rfl
 sizeByte:=by kernel_rfl
 neB5:=by decide
structure Bd (w0 w:World)(g:Nat)(bs:List UInt8):Prop where
 is:Lib.IsBuilder 65 5 g g (Lib.byteCells bs) w
 bel:Below g w0 w
theorem Bd.lt {w0 w:World}{g:Nat}{bs:List UInt8}(h:Bd w0 w g bs):g<w.heap.size:=by
 rcases h.is with ⟨_,v,hk,_⟩|⟨_,v,hk,_⟩
 ·exact(Array.getElem?_eq_some_iff.1 hk).1
 ·exact(Array.getElem?_eq_some_iff.1 hk).1
theorem Bd.below {w0 w w':World}{g:Nat}{bs:List UInt8}(h:Bd w0 w g bs)(hb:Below w.heap.size w w'):Bd w0 w' g bs:=by
 have hlt:=h.lt;refine⟨?_,h.bel.trans (hb.mono (Nat.le_of_lt hlt))⟩;rcases h.is with ⟨h1,v,hk,ho,hn⟩|⟨h1,v,hk,ho,hn⟩
 ·exact .inl ⟨h1,v,(hb.block g hlt).trans hk,own_below ho hb,hn⟩
 ·exact .inr ⟨h1,v,(hb.block g hlt).trans hk,own_below ho hb,hn⟩
theorem Bd.new (w0 w:World)(hb:Below w.heap.size w0 w):Bd w0 (w.alloc (.cells #[.pointer none,.slice none 0 0] 65)) w.heap.size []:=
 ⟨Lib.fresh_isBuilder _ _ w,hb.alloc (Nat.le_refl _) _⟩
theorem info_bu8:(prog.info? 5).map (fun i=>(i.zero,i.size,i.bytes))=some (some (.int .u8 0),1,1):=by kernel_rfl
theorem bldInfo:∃j,prog.info? 65=some j∧j.size=2:=by
 obtain⟨j,hj,hjs⟩:=Option.map_eq_some_iff.1 bldX169.sizeBuilder;exact⟨j,hj,hjs⟩
theorem bldLies:liesAt prog prog.depth 65 (2/prog.cellsOf 65) 0 65 1=true:=by kernel_rfl
theorem bcheck_used (g:Nat)(w:World)(h0:w.cell? ⟨g,0,none⟩=some (.pointer (some ⟨g,0,none⟩))) :
  Calls prog 70 #[.pointer (some ⟨g,0,none⟩)] w fun e w'=>e=.returned (.tuple #[])∧w'=w:=by
 obtain⟨j,hj,hjs⟩:=bldInfo;have hne:=fun W:World=>Lib.run_neq_ptr_same (P:=prog) W ⟨g,0,none⟩ underlying62 hj
 clear hj hjs;go_enter func70,ntmps70;go_wp2
 go_end0
 exact⟨rfl,rfl⟩
theorem bcheck_fresh (g:Nat)(w:World)(h0:w.cell? ⟨g,0,none⟩=some (.pointer none))(hsh:w.shape? g=some (65,2))(hfz:w.frozen? ⟨g,0,none⟩=false) :
  Calls prog 70 #[.pointer (some ⟨g,0,none⟩)] w fun e w'=>e=.returned (.tuple #[])∧w'=w.setCell ⟨g,0,none⟩ (.pointer (some ⟨g,0,none⟩)):=by
 obtain⟨j,hj,hjs⟩:=bldInfo;have hne:=fun W:World=>Lib.run_neq_ptr_same (P:=prog) W ⟨g,0,none⟩ underlying62 hj
 have hto:=Lib.run_to_unsafe (P:=prog) w ⟨g,0,none⟩ underlying62 underlying130 hj (by rw[hjs];decide) hsh (Nat.zero_lt_succ 1);have hfr:=Lib.run_from_unsafe (P:=prog) w ⟨g,0,none⟩ underlying130 underlying62 hj hsh bldLies;have hcl:(callFunc 101 #[.pointer (some ⟨g,0,none⟩)]).run prog w=.ok (.value (.pointer (some ⟨g,0,none⟩))) w:=by
  rw[run_callFunc_extern func101 (by kernel_rfl) (by kernel_rfl) (by kernel_rfl) (e:=Extern.AbiNoEscape.same) (by kernel_rfl),Lib.run_noEscape];rfl
 clear hj hjs hsh;go_enter func70,ntmps70;go_wp2
 go_end0
 exact⟨rfl,rfl⟩
theorem bcheck_any (w0 w:World)(g:Nat)(bs:List UInt8)(h:Bd w0 w g bs) :
  Calls prog 70 #[.pointer (some ⟨g,0,none⟩)] w fun e w'=>e=.returned (.tuple #[])∧Lib.BuilderAt 65 5 g g (.pointer (some ⟨g,0,none⟩)) (Lib.byteCells bs) w'∧Below g w0 w'∧w.heap.size≤w'.heap.size:=by
 rcases h.is with k|k
 ·refine(bcheck_fresh g w k.cell0 k.shape k.frozen0).mono ?_
  rintro e w' ⟨rfl,rfl⟩;exact⟨rfl,k.used _,h.bel.setCell (p:=⟨g,0,none⟩) (Nat.le_refl _) _,by simp⟩
 ·refine(bcheck_used g w k.cell0).mono ?_
  rintro e w' ⟨rfl,rfl⟩;exact⟨rfl,k,h.bel,Nat.le_refl _⟩
theorem bwrite_any (s:ByteArray)(w0 w:World)(g:Nat)(bs:List UInt8)(h:Bd w0 w g bs)(hn:bs.length+s.size≤140737488355328) :
  Calls prog 31 #[.pointer (some ⟨g,0,none⟩),.string s] w fun e w'=>e=.returned (.tuple #[.int .i64 s.size,.nilIface])∧Bd w0 w' g (bs++s.data.toList):=by
 have hlt:=h.lt;have C:=hd (bcheck_any w0 w g bs h);have HN:=hd hn;clear h hn;go_enter func31,ntmps31;go_wp2_with fail
 refine C.o.mono ?_;rintro e w1 ⟨rfl,⟨hB,v,hbk,hown,hne⟩,hb1,hz⟩;have hlt1:g<w1.heap.size:=(by omega);have c1:w1.cell? ⟨g,1,none⟩=some v:=(by rw[Lib.cell_of_heap hbk];rfl);have HO:Hd (w1.ownsRow g 5 1 v bs.length (cellsB bs)):=hd (by rw[Lib.byteCells_length]at hown;exact hown);have HK:=hd hbk;have HE:=hd hne;have HB1:=hd hb1;clear hown hbk hne hb1 C hz;go_wp2_with (at_builtin;refine wpList_app_str _ 63 9 5 underlying63 underlying9 info_bu8 rfl _ _ rfl g v bs.length (cellsB bs) rfl HO.o s rfl HN.o (Nat.le_of_lt hlt1) ?_)
 intro v' w2 ho hg;obtain⟨A',c',rfl⟩:=own_shape ho;have hb2:w2.heap[g]?=some (.cells #[.pointer (some ⟨g,0,none⟩),v] 65 (0,0)):=(hg.block g hlt1 (fun e=>HE.o e.symm)).trans HK.o;have d1:w2.cell? ⟨g,1,none⟩=some v:=(by rw[Lib.cell_of_heap hb2];rfl);have f1:w2.frozen? ⟨g,1,none⟩=false:=Lib.frozen_of_heap hb2 1;have HBD:Hd (Bd w0 (w2.setCell ⟨g,1,none⟩ (.slice A' (bs.length+s.size) c')) g (bs++s.data.toList)):=hd <|by
  have hl:(bs++s.data.toList).length=bs.length+s.size:=(by rw[List.length_append,Lib.size_eq]);refine⟨.inr (Lib.BuilderAt.put (Nat.le_refl _) hb2 ?_ (by decide)),?_⟩
  ·rw[Lib.byteCells_length,hl,Lib.byteCells_append]
   exact ho
  ·exact(HB1.o.grown hg (Nat.le_of_lt hlt1) (fun k hk=>(HO.o.lt k hk).1)).setCell (p:=⟨g,1,none⟩) (Nat.le_refl _) _
 clear hb2 ho hg;go_wp2;go_ret2;exact⟨rfl,HBD.o⟩
theorem bstring_any (w0 w:World)(g:Nat)(bs:List UInt8)(h:Bd w0 w g bs) :
  Calls prog 33 #[.pointer (some ⟨g,0,none⟩)] w fun e w'=>e=.returned (.string ⟨bs.toArray⟩)∧Below g w0 w':=by
 have hlt:=h.lt;have q:Calls prog 33 #[.pointer (some ⟨g,0,none⟩)] w fun e w'=>e=.returned (.string ⟨bs.toArray⟩)∧Below g w w':=
  Any.Builder_String_any Tryz.laysN169 bldX169 g g bs w h.is (Nat.le_of_lt hlt)
 exact q.mono fun e w' ⟨h1,h2⟩=>⟨h1,h.bel.trans h2⟩
end YtieknenhfeejiaaGreatDoor
end Go.Proofs
namespace Go.Proofs.YtieknenhfeejiaaGreatDoor
open _root_.Go.Proofs.Tryz
open Go.RowKit
theorem lquote_any (s:ByteArray)(w:World)(hs:s.size≤1048576) :
  Calls prog 32 #[.string s] w fun e w'=>e=strR (U.wrS U.wrQ s)∧Below w.heap.size w w':=by
 cases hv:U.valid s with
 |false=>exact quote_no s w (by omega) hv
 |true=>exact quote_yes s w (by omega) hv
end Go.Proofs.YtieknenhfeejiaaGreatDoor
namespace Go.Proofs.YtieknenhfeejiaaGreatDoor
open _root_.Go.Proofs.Tryz
open Go.RowKit
theorem quo_ok {v:ByteArray}(h:U.valid v=true):strR (U.wrS U.wrQ v)=.returned (.tuple #[.string ⟨(SC.qv v).toArray⟩,.int .i64 0]):=by
 unfold strR U.wrS;rw[if_pos h];rfl
theorem vld_val:∀ {l:List Lb},L.vld l=true→∀x∈l,L.lab x.1=true∧U.valid x.2=true:=by
 have go:∀(l:List Lb) (p:Option ByteArray),L.vldP p l=true→∀x∈l,L.ok1 x=true:=by
  intro l;induction l with
  |nil=>intro _ _ x hx;cases hx
  |cons y r ih=>
   intro p h x hx;unfold L.vldP at h;rw[Bool.and_eq_true,Bool.and_eq_true]at h;rcases List.mem_cons.1 hx with rfl|hx
   ·exact h.1.1
   ·exact ih _ h.2 x hx
 intro l h x hx;have:=go l none h x hx;unfold L.ok1 at this;simp only[Bool.and_eq_true]at this;exact⟨this.1.1,this.2⟩
theorem ltext_any (va:Value)(n:Nat)(l:List Lb)(w:World)(hl:IsL 2 w va n (cellsL l))(hn:n≤2097152)(hS:∀y∈l,y.1.size≤1048576∧y.2.size≤1048576) :
  Calls prog 10 #[va] w fun e w'=>e=.returned (.string (L.text l))∧Below w.heap.size w w':=by
 have hll:=IsLb.len hl;obtain⟨A,c,rfl⟩:=hl.shape;have HL:=hd hl;have HLL:=hd hll;have HS:=hd hS;have CV:=hd (fun W (hb:Below w.heap.size w W)=>vld_any (.slice A n c) n l W (hl.below hb) (by omega) (fun y hy=>by have:=hS y hy;omega));have CG:=hd (fun W (hb:Below w.heap.size w W)=>get_any (.slice A n c) n l SC.nmB W (hl.below hb) (by omega));have HGL:=hd (L.get_len l SC.nmB hS);clear hl hll hS;cases hv:L.vld l with
 |false=>
  have HT:Hd (L.text l=⟨#[]⟩):=hd (by unfold L.text L.textL;rw[hv];rfl);rw[hv]at CV;clear hv;go_enter func10,ntmps10;go_wp2_with fail
  refine(CV.o _ (Below.refl _ _)).mono ?_;rintro e1 w1 ⟨rfl,hb1⟩;go_wp2;go_ret;exact⟨ret_str HT.o.symm,hb1⟩
 |true=>
  have HV:=hd hv;have HVV:=hd (vld_val hv);rw[hv]at CV;have HT:Hd (L.text l=⟨(L.hdT (L.ahB l) (L.get SC.nmB l)++(L.tw (L.inA (L.ahB l) l)++L.tl (L.ahB l) (L.inA (L.ahB l) l))).toArray⟩):=hd (by unfold L.text L.textL;rw[if_pos hv]);have CM:=hd (fun W:World=>ismetric_any (L.get SC.nmB l) W (by have:=HGL.o;omega));have HAH:Hd (SC.isMet (L.get SC.nmB l)=L.ahB l):=hd rfl;rw[HAH.o]at CM;clear hv HAH;generalize hnm:L.get SC.nmB l=nm at *;generalize hah:L.ahB l=ah at *;clear hnm hah;go_enter func10,ntmps10;go_wp2_with fail
  refine(CV.o _ (Below.refl _ _)).mono ?_;rintro e1 w1 ⟨rfl,hb1⟩;have hz1:=hb1.size;have HB1:=hd (show Below w.heap.size w (w1.alloc (.cells #[.pointer none,.slice none 0 0] 65)) from hb1.alloc hz1 _);have HD1:=hd (Bd.new w1 w1 (Below.refl _ _));have HW1:=hd hb1;clear hb1 CV;go_wp2_with fail
  refine(CG.o _ HB1.o).mono ?_;rintro e2 w2 ⟨rfl,hb2⟩;have HB2:=hd (HB1.o.trans (hb2.mono HB1.o.size));have HD2:=hd (HD1.o.below hb2);have hg2:=HD2.o.lt;clear hb2 CG HB1 HD1;go_wp2_with fail
  refine(CM.o _).mono ?_;rintro e3 w3 ⟨rfl,rfl⟩;generalize hg:w1.heap.size=g at *;clear CM;go_upto_if 18 with fail
  go_cut [] from 19 to 20 (fun wx=>Hd (Bd w1 wx g (L.hdT ah nm))∧Hd (Below w.heap.size w wx))
  case first=>
   cases ah with
   |true=>
    go_wp2_with fail
    refine(bwrite_any nm w1 _ g [] HD2.o (by have:=HGL.o;simp;omega)).mono ?_;rintro e4 w4 ⟨rfl,h4⟩;have HD4:Hd (Bd w1 w4 g (L.hdT true nm)):=hd h4;have HB4:Hd (Below w.heap.size w w4):=hd (HW1.o.trans (h4.bel.mono (by omega)));clear h4;go_wp2;go_meet;exact⟨HD4,HB4⟩
   |false=>
    go_wp2;go_meet;exact⟨HD2,HB2⟩
  case rest=>
   obtain⟨HD5,HB5⟩:=hcut;have HNL:=hd (show (L.hdT ah nm).length≤1048576 by
    have:=HGL.o;unfold L.hdT;split
    ·rw[←Lib.size_eq];exact this
    ·simp)
   clear HD2 HB2 hg2;go_wp2;go_loopw [6,23] (fun bt x wr=>∃(k:Nat) (sp:ByteArray),k≤n∧x=.int .i64 k∧bt=.string sp∧sp.size≤2∧Hd (sp.data.toList=L.sepB (L.inA ah (l.take k)))∧Hd (Bd w1 wr g (L.hdT ah nm++L.tw (L.inA ah (l.take k))))∧Hd (Below w.heap.size w wr)) (fun _ x _=>n-(intOf x).toNat)
   case atStart=>exact⟨0,⟨#[123]⟩,Nat.zero_le _,rfl,rfl,by decide,hd (by rw[List.take_zero,L.inA_nil];rfl),hd (by rw[List.take_zero,L.inA_nil];simpa[L.tw] using HD5.o),HB5⟩
   case round=>
    clear HD5 HB5;obtain⟨k,sp,hk,rfl,rfl,hsp,HSP,HDR,HB⟩:=hrel;have hzr:=HB.o.size;by_cases hlt:k<n
    ·have hkl:k<l.length:=by rw[HLL.o];exact hlt
     obtain⟨b,off,rfl,hbl,c1,c2⟩:=IsLb.at_ HL.o k hkl;have d1:=(HB.o.cell (p:=⟨b,off+k*2,none⟩) hbl).trans c1;have d2:=(HB.o.cell (p:=⟨b,off+k*2+1,none⟩) hbl).trans c2;obtain⟨hs1,hs2⟩:=HS.o _ (List.getElem_mem hkl);have HVX:=hd (HVV.o _ (List.getElem_mem hkl));have HSK:=hd (fun (h1:ah=true) (h2:(l[k]'hkl).1=SC.nmB)=>L.inA_skip hkl h1 h2);have HPU:=hd (fun (h:ah=true→(l[k]'hkl).1≠SC.nmB)=>L.inA_put hkl (a:=ah) h);have htl:=L.tw_len (L.inA ah (l.take k)) (fun y hy=>HS.o y (List.mem_of_mem_take (L.inA_mem hy)));have htl2:=L.inA_len ah (l.take k);rw[List.length_take]at htl2
     have HTL:=hd (show (L.tw (L.inA ah (l.take k))).length≤17592183947264 by omega);have hpc:=L.pc_len _ ⟨hs1,hs2⟩;clear c1 c2 htl htl2;generalize l[k]'hkl=x at *;have HPC:=hd hpc;have hql:=L.qv_len x.2;obtain⟨x1,x2⟩:=x;simp only at d1 d2 HSK HPU hs1 hs2 HVX;have HB6:=hd (HB.o.alloc hzr (.cells #[.string x1,.string x2] 35));have HD6:=hd (HDR.o.below ((Below.refl wr.heap.size wr).alloc (Nat.le_refl _) (.cells #[.string x1,.string x2] 35)));by_cases hsk:ah=true∧x1=SC.nmB
     ·obtain⟨rfl,hx⟩:=hsk
      have he:(x1.toList==[95,95,110,97,109,101,95,95])=true:=(by rw[hx,ByteArray.toList_eq];rfl);have HIN:=hd (HSK.o rfl hx);clear hx HSK HPU;go_wp2;go_roundw
      case rel=>exact⟨k+1,sp,by omega,by go_num,rfl,hsp,hd (by rw[HIN.o];exact HSP.o),hd (by rw[HIN.o];exact HD6.o),HB6⟩
      case measure=>simp[intOf];omega
     ·have HIN:=hd (HPU.o (fun h1 h2=>hsk ⟨h1,h2⟩))
      have HQ:=hd (fun W:World=>by have h:=lquote_any x2 W hs2;rw[quo_ok HVX.o.2]at h;exact h);have HTS:=hd (L.tw_snoc (L.inA ah (l.take k)) (x1,x2));have HE2:Hd (ah=true→(x1.toList==[95,95,110,97,109,101,95,95])=false):=hd (fun h=>by
       have:=bytes_ne (fun h2:x1=SC.nmB=>hsk ⟨h,h2⟩);rw[ByteArray.toList_eq SC.nmB]at this;exact this)
      clear hsk HSK HPU;go_upto_region 12 with fail
      go_cut [32] from 27 to 32 (fun v wx=>v=.bool false∧wx=wr.alloc (.cells #[.string x1,.string x2] 35))
      case first=>
       cases ah with
       |true=>
        have he:=HE2.o rfl;go_wp2;go_meet;exact⟨rfl,rfl⟩
       |false=>
        go_wp2;go_meet;exact⟨rfl,rfl⟩
      case rest=>
       obtain⟨rfl,rfl⟩:=hcut;clear HE2;go_wp2_with fail
       refine(HQ.o _).mono ?_;rintro e7 w7 ⟨rfl,hb7⟩;have k1:w7.cell? ⟨wr.heap.size,0,none⟩=some (.string x1):=(hb7.cell (p:=⟨wr.heap.size,0,none⟩) (by simp)).trans (by simp);have HD7:=hd (HD6.o.below hb7);have HB7:=hd (HB6.o.trans (hb7.mono HB6.o.size));clear hb7 HQ HD6 HB6;obtain⟨q,hq⟩:∃q:ByteArray,q=⟨(SC.qv x2).toArray⟩:=⟨_,rfl⟩
       have hqd:q.data.toList=SC.qv x2:=(by rw[hq]);have hqz:q.size≤6291458:=(by rw[Lib.size_eq,hqd];omega);rw[←hq];have HQD:=hd hqd;clear hq hqd hql hpc;have HBN:Hd ((L.hdT ah nm++L.tw (L.inA ah (l.take k))).length+(sp++x1++⟨#[61]⟩++q).size≤140737488355328):=hd (by
        have h1:=HNL.o;have h2:=HTL.o;have h3:(⟨#[61]⟩:ByteArray).size=1:=rfl;rw[List.length_append,ByteArray.size_append,ByteArray.size_append,ByteArray.size_append,h3];generalize (L.tw (L.inA ah (l.take k))).length=a at *;generalize (L.hdT ah nm).length=a at *;omega)
       have n1:¬ 9223372036854775807<sp.size+x1.size:=(by omega);have n2:¬ 9223372036854775807<sp.size+x1.size+1:=(by omega);have n3:¬ 9223372036854775807<sp.size+x1.size+1+q.size:=(by omega);have C:=hd (bwrite_any (sp++x1++⟨#[61]⟩++q) w1 w7 g _ HD7.o HBN.o);have HZD:Hd ((sp++x1++(⟨#[61]⟩:ByteArray)++q).data.toList=L.sepB (L.inA ah (l.take k))++SC.pc (x1,x2)):=hd (by
        unfold SC.pc;rw[←HQD.o,←HSP.o];simp[ByteArray.data_append])
       go_wp2_with fail
       generalize hz:sp++x1++(⟨#[61]⟩:ByteArray)++q=z at *;clear hz HBN;refine C.o.mono ?_;rintro e8 w8 ⟨rfl,h8⟩;have HD8:Hd (Bd w1 w8 g (L.hdT ah nm++L.tw (L.inA ah (l.take (k+1))))):=hd (by
        rw[HIN.o,HTS.o,←List.append_assoc];rw[←HZD.o];exact h8)
       have HB8:Hd (Below w.heap.size w w8):=hd (HW1.o.trans (h8.bel.mono (by omega)));have HSP2:Hd ((⟨#[44,32]⟩:ByteArray).data.toList=L.sepB (L.inA ah (l.take (k+1)))):=hd (by rw[HIN.o];unfold L.sepB;rw[if_neg (by simp)]);clear h8 HD7 HB7 HIN HTS;go_wp2;go_roundw
       case rel=>exact⟨k+1,⟨#[44,32]⟩,by omega,by go_num,rfl,by decide,HSP2,HD8,HB8⟩
       case measure=>simp[intOf];omega
    ·have hkn:k=n:=by omega
     have HSP2:Hd (sp.data.toList=L.sepB (L.inA ah l)):=hd (by have:=HSP.o;rwa[List.take_of_length_le (by rw[HLL.o];omega)]at this);have HDF:Hd (Bd w1 wr g (L.hdT ah nm++L.tw (L.inA ah l))):=hd (by have:=HDR.o;rwa[List.take_of_length_le (by rw[HLL.o];omega)]at this);have htl:=L.tw_len (L.inA ah l) (fun y hy=>HS.o y (L.inA_mem hy));have htl2:=L.inA_len ah l;have hll:=HLL.o;have HTL:=hd (show (L.hdT ah nm++L.tw (L.inA ah l)).length≤17592184995840 by rw[List.length_append];have:=HNL.o;omega);clear HSP HDR htl htl2 hll;generalize L.inA ah l=P at *;by_cases hP:P=[]
     ·have hs:sp.toList=[123]:=by rw[ByteArray.toList_eq,HSP2.o];unfold L.sepB;rw[if_pos hP]
      have t1:(sp.toList !=[123])=false:=(by rw[hs];rfl);have t2:(sp.toList==[123])=true:=(by rw[hs];rfl);cases ah with
      |true=>
       have HT2:Hd (L.text l=⟨(L.hdT true nm++L.tw P).toArray⟩):=hd (by rw[HT.o];unfold L.tl;rw[if_pos hP,if_pos rfl];simp);clear hs hP;go_wp2_with fail
       refine(bstring_any w1 _ g _ HDF.o).mono ?_;rintro e9 w9 ⟨rfl,h9⟩;have HB9:=hd (HW1.o.trans (h9.mono (by omega)));go_wp2;go_ret;exact⟨ret_str HT2.o.symm,HB9.o⟩
      |false=>
       have HT2:Hd (L.text l=⟨((L.hdT false nm++L.tw P)++[123,125]).toArray⟩):=hd (by rw[HT.o];unfold L.tl;rw[if_pos hP,if_neg (by decide),List.append_assoc]);clear hs hP;go_wp2_with fail
       refine(bwrite_any ⟨#[123,125]⟩ w1 _ g _ HDF.o (by have:=HTL.o;have:(⟨#[123,125]⟩:ByteArray).size=2:=rfl;omega)).mono ?_;rintro e8 w8 ⟨rfl,h8⟩;have HD8:=hd h8;clear h8;go_wp2_with fail
       refine(bstring_any w1 _ g _ HD8.o).mono ?_;rintro e9 w9 ⟨rfl,h9⟩;have HB9:=hd (HW1.o.trans (h9.mono (by omega)));go_wp2;go_ret;exact⟨ret_str HT2.o.symm,HB9.o⟩
     ·have hs:sp.toList=[44,32]:=by rw[ByteArray.toList_eq,HSP2.o];unfold L.sepB;rw[if_neg hP]
      have t1:(sp.toList !=[123])=true:=(by rw[hs];rfl);have t2:(sp.toList==[123])=false:=(by rw[hs];rfl);have HT2:Hd (L.text l=⟨((L.hdT ah nm++L.tw P)++[125]).toArray⟩):=hd (by rw[HT.o];unfold L.tl;rw[if_neg hP,List.append_assoc]);clear hs hP;go_wp2_with fail
      refine(bwrite_any ⟨#[125]⟩ w1 _ g _ HDF.o (by have:=HTL.o;have:(⟨#[125]⟩:ByteArray).size=1:=rfl;omega)).mono ?_;rintro e8 w8 ⟨rfl,h8⟩;have HD8:=hd h8;clear h8;go_wp2_with fail
      refine(bstring_any w1 _ g _ HD8.o).mono ?_;rintro e9 w9 ⟨rfl,h9⟩;have HB9:=hd (HW1.o.trans (h9.mono (by omega)));go_wp2;go_ret;exact⟨ret_str (by rw[HT2.o,List.append_assoc]),HB9.o⟩
theorem info_u8r:(prog.info? 5).map (fun i=>(i.zero,i.size,i.bytes))=some (some (.int .u8 0),1,1):=by kernel_rfl
structure RB (w0 w:World)(v:Value)(bs:List UInt8):Prop where
 own:w.ownsRow w0.heap.size 5 1 v bs.length (cellsB bs)
 bel:Below w0.heap.size w0 w
theorem RB.below {w0 w w':World}{v:Value}{bs:List UInt8}(h:RB w0 w v bs)(hb:Below w.heap.size w w'):RB w0 w' v bs:=⟨own_below h.own hb,h.bel.trans (hb.mono h.bel.size)⟩
theorem RB.push {w0 w w':World}{v v':Value}{bs:List UInt8}(h:RB w0 w v bs)(x:List UInt8)(k:Nat)(hk:k=x.length)(ho:w'.ownsRow w0.heap.size 5 1 v' (bs.length+k) (cellsB bs++cellsB x))(hg:w.grownBy w' v.ownBlock):RB w0 w' v' (bs++x):=by
 subst hk;refine⟨?_,h.bel.grown hg h.bel.size (fun g hg=>(h.own.lt g hg).1)⟩;rw[List.length_append,cellsB_app];exact ho
def RestL (w0 w:World)(v:Value)(l:List Lb):Prop:=IsL 2 w0 v l.length (cellsL l)∨w.ownsRow w0.heap.size 35 2 v l.length (cellsL l)
theorem RestL.is {w0 w:World}{v:Value}{l:List Lb}(h:RestL w0 w v l)(hb:Below w0.heap.size w0 w):IsL 2 w v l.length (cellsL l):=by
 rcases h with h|h
 ·exact h.below hb
 ·exact IsL.own h
theorem RestL.below {w0 w w':World}{v:Value}{l:List Lb}(h:RestL w0 w v l)(hb:Below w.heap.size w w'):RestL w0 w' v l:=by
 rcases h with h|h
 ·exact .inl h
 ·exact .inr (own_below h hb)
theorem RestL.grown {w0 w w':World}{v o:Value}{l:List Lb}{bs:List UInt8}(h:RestL w0 w v l)(hb:RB w0 w o bs)(hg:w.grownBy w' o.ownBlock):RestL w0 w' v l:=by
 rcases h with h|h
 ·exact .inl h
 ·exact .inr (h.kept hg (own_type_ne h hb.own (by decide)))
section
variable {P:Program} {ops:Array Oper} {rest:List Oper} {o:Oper} {a:Act} {Q:Exit→Act→World→Prop}
theorem wp_rb_lit (hgd:o.guard=none)(s x:Operand)(ho:o.op=.call { callee:=.builtin .append,args:=#[s,x],argTypes:=#[63,63] })
  (w0 W:World)(v:Value)(bs:List UInt8)(c:UInt8)(hR:RB w0 W v bs)(hn:bs.length≤70368744177664)(H:Nat)(hH:W.heap.size=H)(hs:a.eval s=v)(hx:a.eval x=.slice (some ⟨H,0,none⟩) 1 1)
  (h:∀v' w',RB w0 w' v' (bs++[c])→W.grownBy w' v.ownBlock→wpList prog ops Q rest (a.put o.dst v') w') :
  wpList prog ops Q (o::rest) a (W.alloc (.cells #[.int .u8 (c.toNat:Int)] 5)):=
 wpList_app_litH 63 5 (.int .u8 0) 1 1 underlying63 info_u8r rfl (by decide) hgd s x ho w0.heap.size v bs.length (cellsB bs) W #[.int .u8 (c.toNat:Int)] 1 H hH hs hx hR.own rfl (by simp[Value.oneCell']) (by omega) (by omega) hR.bel.size
  fun v' w' h1 h2=>h v' w' (hR.push [c] 1 rfl h1 h2) h2
theorem wp_rb_str (hgd:o.guard=none)(s x:Operand)(ho:o.op=.call { callee:=.builtin .append,args:=#[s,x],argTypes:=#[63,9] })
  (w0 W:World)(v:Value)(bs:List UInt8)(y:ByteArray)(hR:RB w0 W v bs)(hn:bs.length+y.size≤140737488355328)(hs:a.eval s=v)(hx:a.eval x=.string y)
  (h:∀v' w',RB w0 w' v' (bs++y.data.toList)→W.grownBy w' v.ownBlock→wpList prog ops Q rest (a.put o.dst v') w') :
  wpList prog ops Q (o::rest) a W:=
 wpList_app_str W 63 9 5 underlying63 underlying9 info_u8r hgd s x ho w0.heap.size v bs.length (cellsB bs) hs hR.own y hx hn hR.bel.size
  fun v' w' h1 h2=>h v' w' (hR.push y.data.toList y.size (Lib.size_eq y) h1 h2) h2
end
theorem conv_rb {w0 w:World}{v:Value}{bs:List UInt8}(h:RB w0 w v bs):(convert 63 9 v).run prog w=.ok (.string ⟨bs.toArray⟩) w:=
 run_string_of w 63 9 5 underlying63 underlying5 underlying9 _ _ _ (IsL.own h.own)
structure LR (w0 w:World)(v:Value)(P:List Lb):Prop where
 own:w.ownsRow w0.heap.size 35 2 v P.length (cellsL P)
 bel:Below w0.heap.size w0 w
theorem LR.below {w0 w w':World}{v:Value}{P:List Lb}(h:LR w0 w v P)(hb:Below w.heap.size w w'):LR w0 w' v P:=⟨own_below h.own hb,h.bel.trans (hb.mono h.bel.size)⟩
theorem LR.nil {w0 w:World}(h:Below w0.heap.size w0 w):LR w0 w (.slice none 0 0) []:=⟨⟨rfl,.inl ⟨rfl,rfl⟩⟩,h⟩
section
variable {ops:Array Oper} {rest:List Oper} {o:Oper} {a:Act} {Q:Exit→Act→World→Prop}
theorem wp_lr_lit (hgd:o.guard=none)(s x:Operand)(ho:o.op=.call { callee:=.builtin .append,args:=#[s,x],argTypes:=#[36,36] })
  (w0 W:World)(v:Value)(P:List Lb)(y z:ByteArray)(hR:LR w0 W v P)(hn:P.length≤4294967296)(H:Nat)(hH:W.heap.size=H)(hs:a.eval s=v)(hx:a.eval x=.slice (some ⟨H,0,none⟩) 1 1)
  (h:∀v' w',LR w0 w' v' (P++[(y,z)])→W.grownBy w' v.ownBlock→wpList prog ops Q rest (a.put o.dst v') w') :
  wpList prog ops Q (o::rest) a (W.alloc (.cells #[.string y,.string z] 35)):=
 wpList_app_litH 36 35 (.agg #[.string ⟨#[]⟩,.string ⟨#[]⟩]) 2 32 underlying36 info_label rfl (by decide) hgd s x ho w0.heap.size v P.length (cellsL P) W #[.string y,.string z] 1 H hH hs hx hR.own rfl (by simp[Value.oneCell']) (by omega) (by omega) hR.bel.size
  fun v' w' h1 h2=>h v' w' ⟨by rw[List.length_append,cellsL_app];exact h1,hR.bel.grown h2 hR.bel.size (fun g hg=>(hR.own.lt g hg).1)⟩ h2
theorem wp_lr_app (hgd:o.guard=none)(s x:Operand)(ho:o.op=.call { callee:=.builtin .append,args:=#[s,x],argTypes:=#[36,36] })
  (w0 W:World)(v y:Value)(P R:List Lb)(hR:LR w0 W v P)(hn:P.length≤4294967296)(hy:IsL 2 W y R.length (cellsL R))(hm:R.length≤4294967296)(hs:a.eval s=v)(hx:a.eval x=y)
  (h:∀v' w',LR w0 w' v' (P++R)→W.grownBy w' v.ownBlock→wpList prog ops Q rest (a.put o.dst v') w') :
  wpList prog ops Q (o::rest) a W:=
 wpList_app_any W 36 35 (.agg #[.string ⟨#[]⟩,.string ⟨#[]⟩]) 2 32 underlying36 info_label rfl (by decide) (by simp[Region.wanted,hgd]) s x ho w0.heap.size v P.length (cellsL P) hs hR.own y R.length (cellsL R) hx hy (cellsL_one R) (by omega) (by omega) hR.bel.size
  fun v' w' h1 h2=>h v' w' ⟨by rw[List.length_append,cellsL_app];exact h1,hR.bel.grown h2 hR.bel.size (fun g hg=>(hR.own.lt g hg).1)⟩ h2
end
end Go.Proofs.YtieknenhfeejiaaGreatDoor
