/- Whole numbers of any size as words of 32 bits, the lowest first (weirref02/bi .. -/
import Derived.Test.YtieknenhfeejiaaGreatDoorLBase
import Derived.Test.YtieknenhfeejiaaGreatDoorBQuiet
import Derived.Deep.LoopGhost
import Derived.Laws.BitsAllLaws
set_option maxRecDepth 100000
set_option maxHeartbeats 2000000
set_option linter.unusedVariables false
set_option linter.unusedSimpArgs false
namespace Go.Proofs.YtieknenhfeejiaaGreatDoor
open _root_.Go.Proofs.Tryz
open Go.RowKit
def cellsN (l:List Nat):List Value:=l.map fun x:Nat=>Value.int .u32 (x:Int)
theorem cellsN_len (l:List Nat):(cellsN l).length=l.length:=by simp[cellsN]
namespace FB
def val:List Nat→Nat
 |[]=>0
 |x::l=>x+4294967296*val l
def W (l:List Nat):Prop:=∀x∈l,x<4294967296
def Tr (l:List Nat):Prop:=∀h:0<l.length,l[l.length-1]≠0
theorem val_app (a b:List Nat):val (a++b)=val a+4294967296^a.length*val b:=by
 induction a with
 |nil=>simp[val]
 |cons x a ih=>
  rw[List.cons_append,val,val,ih,List.length_cons,Nat.pow_succ];rw[Nat.mul_add,←Nat.mul_assoc,Nat.mul_comm 4294967296 (4294967296^a.length)];omega
theorem val_snoc (a:List Nat)(x:Nat):val (a++[x])=val a+4294967296^a.length*x:=by rw[val_app];simp[val]
theorem val_lt:∀ {l:List Nat},W l→val l<4294967296^l.length
 |[],_=>by simp[val]
 |x::l,h=>by
  have h1:=val_lt (l:=l) (fun y hy=>h y (List.mem_cons_of_mem _ hy));have h2:=h x (List.mem_cons_self ..);rw[val,List.length_cons,Nat.pow_succ];omega
theorem W.app {a b:List Nat}(h1:W a)(h2:W b):W (a++b):=fun x hx=>by
 rcases List.mem_append.1 hx with h|h
 ·exact h1 x h
 ·exact h2 x h
theorem W.take {l:List Nat}(h:W l)(k:Nat):W (l.take k):=fun x hx=>h x (List.mem_of_mem_take hx)
theorem W.one {x:Nat}(h:x<4294967296):W [x]:=fun y hy=>by rw[List.mem_singleton]at hy;omega
theorem val_zeros:∀ {l:List Nat},(∀x∈l,x=0)→val l=0
 |[],_=>rfl
 |x::l,h=>by rw[val,h x (List.mem_cons_self ..),val_zeros (fun y hy=>h y (List.mem_cons_of_mem _ hy))]
theorem val_take {l:List Nat}{k:Nat}(h:∀i (hi:i<l.length),k≤i→l[i]=0):val (l.take k)=val l:=by
 have e:=val_app (l.take k) (l.drop k);rw[List.take_append_drop]at e;have h0:val (l.drop k)=0:=by
  refine val_zeros fun x hx=>?_
  obtain⟨i,hi,rfl⟩:=List.getElem_of_mem hx;rw[List.getElem_drop];rw[List.length_drop]at hi;exact h _ (by omega) (by omega)
 rw[e,h0,Nat.mul_zero,Nat.add_zero]
theorem Tr.len {l:List Nat}(h:Tr l){k:Nat}(hv:val l<4294967296^k):l.length≤k:=by
 rcases Nat.eq_zero_or_pos l.length with h0|h0
 ·omega
 ·have h1:=h h0
  by_cases c:l.length≤k
  ·exact c
  ·exfalso
   have e:l=l.take (l.length-1)++[l[l.length-1]]:=by
    have:=List.take_append_drop (l.length-1) l;rw[List.drop_eq_getElem_cons (by omega),List.drop_of_length_le (by omega)]at this;exact this.symm
   have e2:val l=val (l.take (l.length-1))+4294967296^(l.length-1)*l[l.length-1]:=by
    conv=>lhs;rw[e]
    rw[val_snoc,List.length_take,Nat.min_eq_left (by omega)]
   have h2:4294967296^k≤4294967296^(l.length-1):=Nat.pow_le_pow_right (by decide) (by omega);have h3:4294967296^(l.length-1)≤4294967296^(l.length-1)*l[l.length-1]:=Nat.le_mul_of_pos_right _ (Nat.pos_of_ne_zero h1);omega
end FB
def IsN (w:World)(v:Value)(l:List Nat):Prop:=(∃A c,v=.slice A l.length c∧l.length≤c)∧IsL 1 w v l.length (cellsN l)∧FB.W l
theorem IsN.below {w w':World}{v:Value}{l:List Nat}(h:IsN w v l)(hb:Below w.heap.size w w'):IsN w' v l:=⟨h.1,h.2.1.below hb,h.2.2⟩
theorem isL_at {w:World}{A:Option Addr}{n c:Nat}{xs:List Value}(h:IsL 1 w (.slice A n c) n xs)(h0:0<xs.length) :
  ∃b off,A=some ⟨b,off,none⟩∧b<w.heap.size∧∀i (hi:i<xs.length),w.cell? ⟨b,off+i,none⟩=some (xs[i]'hi):=by
 obtain⟨hl,A',c',e,r⟩:=h;simp only[Value.slice.injEq,true_and]at e;obtain⟨rfl,_⟩:=e;exact r.head h0
theorem IsN.at_ {w:World}{A:Option Addr}{n c:Nat}{l:List Nat}(h:IsN w (.slice A n c) l)(h0:0<l.length) :
  ∃b off,A=some ⟨b,off,none⟩∧b<w.heap.size∧∀i (hi:i<l.length),w.cell? ⟨b,off+i,none⟩=some (.int .u32 ((l[i]'hi:Nat):Int)):=by
 obtain⟨⟨A',c',e,_⟩,h2,_⟩:=h;simp only[Value.slice.injEq]at e;obtain⟨rfl,rfl,rfl⟩:=e;obtain⟨b,off,e1,e2,e3⟩:=isL_at h2 (by rw[cellsN_len];exact h0);refine⟨b,off,e1,e2,fun i hi=>?_⟩;rw[e3 i (by rw[cellsN_len];exact hi)];simp[cellsN]
theorem IsN.take {w:World}{A:Option Addr}{n c:Nat}{l:List Nat}(h:IsN w (.slice A n c) l)(k:Nat)(hk:k≤l.length):IsN w (.slice A k c) (l.take k):=by
 have hl:(l.take k).length=k:=(by rw[List.length_take];omega);have h3:=h;obtain⟨⟨A',c',e,hc⟩,h2,hW⟩:=h;simp only[Value.slice.injEq]at e;obtain⟨rfl,rfl,rfl⟩:=e;refine⟨⟨A,c,by rw[hl],by omega⟩,⟨by rw[cellsN_len];omega,A,c,by rw[hl],fun i hi=>?_⟩,hW.take k⟩;rw[cellsN_len,hl]at hi;obtain⟨b,off,e1,e2,e3⟩:=h3.at_ (by omega);refine⟨b,off,e1,?_⟩;rw[e3 i (by omega)];simp[cellsN]
theorem info_u32:(prog.info? 142).map (fun i=>(i.zero,i.size,i.bytes))=some (some (.int .u32 0),1,4):=by kernel_rfl
theorem trimmed_any (v:Value)(l:List Nat)(w:World)(h:IsN w v l)(hn:l.length≤1000000) :
  Calls prog 156 #[v] w fun e w'=>(∃v' k,e=.returned v'∧IsN w v' (l.take k)∧FB.Tr (l.take k)∧FB.val (l.take k)=FB.val l)∧w=w':=by
 obtain⟨⟨A,c,rfl,hc⟩,_⟩:=id h;have H:=hd h;obtain⟨n,hnl⟩:∃n,n=l.length:=⟨_,rfl⟩
 have HN:=hd hnl;rw[←hnl]at H hc hn ⊢;clear h hnl;go_enter func156,ntmps156;go_wp2
 go_loop [0] (fun v=>∃k:Nat,k≤n∧v=.slice A k c∧Hd (∀i (hi:i<l.length),k≤i→l[i]=0)) (fun v=>match v with| .slice _ k _=>k|_=>0)
 case atStart=>exact⟨n,Nat.le_refl _,rfl,hd fun i hi h=>by have:=HN.o;omega⟩
 case round=>
  obtain⟨k,hk,rfl,HZ⟩:=hrel;by_cases hk0:k=0
  ·subst hk0
   go_wp2;go_ret;exact⟨⟨_,rfl,0,H.o.take 0 (Nat.zero_le _),fun h=>by simp at h,FB.val_take fun i hi h=>HZ.o i hi h⟩,rfl⟩
  ·have hkl:k-1<l.length:=by have:=HN.o;omega
   obtain⟨b,off,rfl,hb,hcell⟩:=H.o.at_ (by omega);have c0:=hcell (k-1) hkl;have e1:((k:Int)-1).toNat=k-1:=(by omega);have e2:(k:Int)-1=((k-1:Nat):Int):=(by omega);have hkz:(0:Int)<(k:Int):=(by omega);clear hcell;by_cases hz:l[k-1]'hkl=0
   ·rw[hz]at c0
    have HZ2:=hd (fun i (hi:i<l.length) (h:k-1≤i)=>show l[i]=0 by
     by_cases q:i=k-1
     ·subst q;exact hz
     ·exact HZ.o i hi (by omega))
    clear hz;go_wp2
    go_round
    case rel=>exact⟨k-1,by omega,rfl,HZ2⟩
    case measure=>simp;omega
   ·have hz2:(((l[k-1]'hkl:Nat):Int)==0)=false:=by rw[bf];omega
    have HT:=hd hz;clear hz;generalize l[k-1]'hkl=x at c0 hz2;go_wp2;go_ret;have hle:k≤l.length:=(by have:=HN.o;omega);refine⟨⟨_,rfl,k,H.o.take k hle,fun h=>?_,FB.val_take fun i hi h=>HZ.o i hi h⟩,rfl⟩;have e3:(l.take k).length-1=k-1:=(by rw[List.length_take];omega);simp only[e3,List.getElem_take];exact HT.o
theorem cellsN_snoc (l:List Nat)(x:Nat):cellsN l++[Value.int .u32 (x:Int)]=cellsN (l++[x]):=by simp[cellsN]
theorem IsN.own {w:World}{B:Nat}{e:TypeId}{v:Value}{l:List Nat}(h:w.ownsRow B e 1 v l.length (cellsN l))(hW:FB.W l):IsN w v l:=by
 refine⟨?_,IsL.own h,hW⟩;rcases h.2 with ⟨rfl,h0⟩|⟨g,cap,cur,rfl,hb,hg,h1,_⟩
 ·exact⟨none,0,by rw[h0],by omega⟩
 ·exact⟨_,cap,rfl,h1⟩
def NumAns (w:World)(N:Nat)(e:Ending)(w':World):Prop:=∃v l,e=.returned v∧IsN w' v l∧FB.Tr l∧FB.val l=N∧Below w.heap.size w w'
theorem trim_any (v:Value)(l:List Nat)(w:World)(h:IsN w v l)(hn:l.length≤1000000) :
  Calls prog 156 #[v] w fun e w'=>NumAns w (FB.val l) e w':=
 (trimmed_any v l w h hn).mono (by
  rintro e w' ⟨⟨v',k,rfl,h1,h2,h3⟩,rfl⟩;exact⟨v',_,rfl,h1,h2,h3,Below.refl _ _⟩)
namespace FB
theorem times_step {O:List Nat}{k C x m c V:Nat}(hO:O.length=k)(h:val O+4294967296^k*C=V*m+c) :
  val (O++[(C+x*m)%4294967296])+4294967296^(k+1)*((C+x*m)/4294967296)=(V+4294967296^k*x)*m+c:=by
 rw[val_snoc,hO,Nat.pow_succ,Nat.add_assoc,Nat.mul_assoc,←Nat.mul_add,Nat.mod_add_div,Nat.mul_add,←Nat.add_assoc,h,Nat.add_mul];rw[Nat.mul_assoc];omega
theorem val_take_succ {l:List Nat}{k:Nat}(hk:k<l.length):val (l.take (k+1))=val (l.take k)+4294967296^k*l[k]:=by
 rw[List.take_succ_eq_append_getElem hk,val_snoc,List.length_take,Nat.min_eq_left (by omega)]
end FB
theorem times_any (v:Value)(l:List Nat)(m c:Nat)(w:World)(h:IsN w v l)(hn:l.length≤100000)(hm:m<4294967296)(hc:c<4294967296) :
  Calls prog 155 #[v,.int .u32 (m:Int),.int .u32 (c:Int)] w fun e w'=>NumAns w (FB.val l*m+c) e w':=by
 obtain⟨⟨A,cp,rfl,hcp⟩,_⟩:=id h;have H:=hd h;obtain⟨n,hnl⟩:∃n,n=l.length:=⟨_,rfl⟩
 have HN:=hd hnl;rw[←hnl]at H hcp hn ⊢;clear h hnl;go_enter func155,ntmps155;go_wp2_with (at_make;refine wpList_mk0 _ 157 142 (.int .u32 0) 1 4 underlying157 info_u32 rfl _ _ rfl w.heap.size _ _ (n+1) rfl rfl ?b1 ?b2 ?b3 ?_)
 case b1=>omega
 case b2=>omega
 case b3=>exact Nat.le_refl _
 intro w2 ho hg;have hb2:Below w.heap.size w w2:=bel_grown (Below.refl _ _) hg (fun k h=>by cases h);clear hg;have HC:=hd hc;go_wp2;go_loopw [7,8,9] (fun o q x wr=>∃(k:Nat) (O:List Nat) (C:Nat),k≤n∧x=.int .i64 k∧q=.int .u64 C∧C<4294967296∧Hd (wr.ownsRow w.heap.size 142 1 o O.length (cellsN O))∧Hd (Below w.heap.size w wr)∧O.length=k∧Hd (FB.W O)∧Hd (FB.val O+4294967296^k*C=FB.val (l.take k)*m+c)) (fun o q x wr=>n-(intOf x).toNat)
 case atStart=>exact⟨0,[],c,Nat.zero_le _,rfl,rfl,hc,hd ho,hd hb2,rfl,hd (fun x hx=>by cases hx),hd (by simp[FB.val])⟩
 case round=>
  obtain⟨k,O,C,hk,rfl,rfl,hC,HO,HB,hOl,HW,HV⟩:=hrel;have hzr:=HB.o.size;by_cases hlt:k<n
  ·have hkl:k<l.length:=by rw[←HN.o];exact hlt
   obtain⟨b,off,rfl,hbl,hcell⟩:=H.o.at_ (by omega);have d1:=(HB.o.cell (p:=⟨b,off+k,none⟩) hbl).trans (hcell k hkl);have hx:=H.o.2.2 _ (List.getElem_mem hkl);have HS:=hd (FB.val_take_succ hkl);clear hcell;generalize l[k]'hkl=x at d1 hx HS;have hxm:x*m≤4294967295*4294967295:=Nat.mul_le_mul (by omega) (by omega);have HM:=hd hm;generalize hy:x*m=y at hxm;have hy2:(x:Int)*(m:Int)=(y:Int):=(by rw[←hy];exact(Int.natCast_mul x m).symm);have hz1:w.heap.size≤wr.heap.size:=hzr
   go_wp2_with (at_builtin;refine wpList_app_lit 157 142 (.int .u32 0) 1 4 underlying157 info_u32 rfl (by decide) rfl _ _ rfl w.heap.size u7 O.length (cellsN O) wr #[.int .u32 (((C:Int)+y)%4294967296)] 1 rfl rfl HO.o rfl (by simp[Value.oneCell']) (by omega) (by omega) hz1 ?_)
   intro v3 w3 ho3 hg3;have HO3:Hd (w3.ownsRow w.heap.size 142 1 v3 (O++[(C+y)%4294967296]).length (cellsN (O++[(C+y)%4294967296]))):=hd <|by
    rw[←cellsN_snoc,List.length_append];have e:(((C+y)%4294967296:Nat):Int)=((C:Int)+y)%4294967296:=(by omega);rw[e];simpa[hOl] using ho3
   have HB3:=hd (bel_grown HB.o hg3 (fun g h=>(HO.o.lt g h).1));clear hg3 ho3;go_wp2;go_roundw
   case rel=>
    refine⟨k+1,_,(C+y)/4294967296,by omega,by go_num,by go_num,by omega,HO3,HB3,by simp;omega,hd (FB.W.app HW.o (FB.W.one (Nat.mod_lt _ (by decide)))),hd ?_⟩;rw[HS.o,←hy];exact FB.times_step hOl HV.o
   case measure=>simp[intOf];omega
  ·have hkn:k=n:=by omega
   subst hkn;have hz1:w.heap.size≤wr.heap.size:=hzr;go_wp2_with (at_builtin;refine wpList_app_lit 157 142 (.int .u32 0) 1 4 underlying157 info_u32 rfl (by decide) rfl _ _ rfl w.heap.size u7 O.length (cellsN O) wr #[.int .u32 (C:Int)] 1 rfl rfl HO.o rfl (by simp[Value.oneCell']) (by omega) (by omega) hz1 ?_)
   intro v3 w3 ho3 hg3;have HO3:Hd (w3.ownsRow w.heap.size 142 1 v3 (O++[C]).length (cellsN (O++[C]))):=hd <|by
    rw[←cellsN_snoc,List.length_append];simpa[hOl] using ho3
   have HB3:=hd (bel_grown HB.o hg3 (fun g h=>(HO.o.lt g h).1));clear hg3 ho3;have CT:=hd (trim_any v3 (O++[C]) w3 (IsN.own HO3.o (FB.W.app HW.o (FB.W.one hC))) (by simp;omega));have HT:=hd (List.take_of_length_le (l:=l) (i:=k) (by have:=HN.o;omega));go_wp2_with (go_at_call 156;refine CT.o.mono ?_;rintro e w4 ⟨v4,l4,rfl,h1,h2,h3,h4⟩;have H1:=hd h1;have H2:=hd h2;have H3:=hd h3;have H4:=hd h4;clear h1 h2 h3 h4)
   go_ret;refine⟨_,l4,rfl,H1.o,H2.o,?_,bel HB3.o H4.o⟩;rw[H3.o,FB.val_snoc,hOl,HV.o,HT.o]
namespace FB
def cmp (x y:Nat):Int:=if x<y then -1 else if y<x then 1 else 0
theorem cmp_lt {x y:Nat}(h:x<y):cmp x y = -1:=if_pos h
theorem cmp_gt {x y:Nat}(h:y<x):cmp x y=1:=by unfold cmp;rw[if_neg (by omega),if_pos h]
theorem cmp_eq (x:Nat):cmp x x=0:=by unfold cmp;rw[if_neg (by omega),if_neg (by omega)]
theorem Tr.le {l:List Nat}(h:Tr l)(h0:0<l.length):4294967296^(l.length-1)≤val l:=by
 by_cases c:val l<4294967296^(l.length-1)
 ·have:=h.len c
  omega
 ·omega
theorem lt_of_len {a b:List Nat}(ha:W a)(hb:Tr b)(h:a.length<b.length):val a<val b:=by
 have h1:=val_lt ha;have h2:=hb.le (by omega);have h3:4294967296^a.length≤4294967296^(b.length-1):=Nat.pow_le_pow_right (by decide) (by omega);omega
theorem lt_at {a b:List Nat}{k:Nat}(hW:W a)(hl:a.length=b.length)(hka:k<a.length)(hkb:k<b.length)(he:a.drop (k+1)=b.drop (k+1))(h:a[k]<b[k]):val a<val b:=by
 have e:∀(l:List Nat) (hk:k<l.length),val l=val (l.take k)+4294967296^k*(l[k]+4294967296*val (l.drop (k+1))):=by
  intro l hk;have:=val_app (l.take k) (l.drop k);rw[List.take_append_drop,List.length_take,Nat.min_eq_left (by omega),List.drop_eq_getElem_cons hk,val]at this;exact this
 rw[e a hka,e b hkb,he];have h1:=val_lt (hW.take k);rw[List.length_take,Nat.min_eq_left (by omega)]at h1;have h2:4294967296^k*(a[k]+4294967296*val (b.drop (k+1))+1)≤4294967296^k*(b[k]+4294967296*val (b.drop (k+1))):=Nat.mul_le_mul_left _ (by omega);rw[Nat.mul_add _ _ 1]at h2;omega
end FB
theorem trim_same (v:Value)(l:List Nat)(w:World)(h:IsN w v l)(hn:l.length≤1000000) :
  Calls prog 156 #[v] w fun e w'=>(∃A c n,e=.returned (.slice A n c)∧n≤c∧n≤l.length∧Hd (∃l',n=l'.length∧IsN w (.slice A n c) l'∧FB.Tr l'∧FB.val l'=FB.val l))∧w=w':=
 (trimmed_any v l w h hn).mono (by
  rintro e w' ⟨⟨v',k,rfl,h1,h2,h3⟩,rfl⟩;obtain⟨⟨A1,c1,rfl,hc1⟩,_⟩:=id h1;exact⟨⟨A1,c1,_,rfl,hc1,by rw[List.length_take];omega,hd ⟨_,rfl,h1,h2,h3⟩⟩,rfl⟩)
theorem compare_any (va vb:Value)(a b:List Nat)(w:World)(ha:IsN w va a)(hb:IsN w vb b)(hna:a.length≤100000)(hnb:b.length≤100000) :
  Calls prog 168 #[va,vb] w fun e w'=>e=.returned (.int .i64 (FB.cmp (FB.val a) (FB.val b)))∧Below w.heap.size w w':=by
 have HA:=hd ha;have HB:=hd hb;obtain⟨⟨Aa,ca,rfl,hca⟩,_⟩:=id ha;obtain⟨⟨Ab,cb,rfl,hcb⟩,_⟩:=id hb;have CA:=hd (trim_same _ a w HA.o (by omega));have CB:=hd (trim_same _ b w HB.o (by omega));clear ha hb;go_enter func168,ntmps168;go_wp2_with (go_at_call 156;with_reducible refine CA.o.mono ?_;rintro e w1 ⟨⟨A1,c1,n1,rfl,hc1,hn1,HA1⟩,rfl⟩)
 go_wp2_with (go_at_call 156;with_reducible refine CB.o.mono ?_;rintro e w1 ⟨⟨A2,c2,n2,rfl,hc2,hn2,HB1⟩,rfl⟩;revert HB1)
 intro HB1;obtain⟨l1,h1,HA2,TA,EA⟩:=HA1.o;obtain⟨l2,h2,HB2,TB,EB⟩:=HB1.o;have HA2:=hd HA2;have HB2:=hd HB2;have H1:=hd h1;have H2:=hd h2;have EA:=hd EA;have EB:=hd EB;rcases Nat.lt_trichotomy n1 n2 with q|q|q
 ·have hne:((n1:Int)!=(n2:Int))=true:=by rw[bne_iff_ne];omega
  have HQ:Hd (FB.cmp (FB.val a) (FB.val b) = -1):=hd (by rw[←EA.o,←EB.o];exact FB.cmp_lt (FB.lt_of_len HA2.o.2.2 TB (by rw[←h1,←h2];exact q)));clear h1 h2 TA TB HA1 HB1;go_wp2;go_ret;exact⟨ret_int HQ.o.symm,Below.refl _ _⟩
 ·subst q
  have hne:((n1:Int)!=(n1:Int))=false:=(by simp);clear h1 h2 TA TB HA1 HB1;go_wp2;have h0:n1≤100000:=(by omega);go_loopw [5] (fun x wr=>∃k q:Nat,k≤n1∧x=.int .i64 ((k:Int)-1)∧wr=w.drewN q∧Hd (l1.drop k=l2.drop k)) (fun x _=>((intOf x)+1).toNat)
  case atStart=>exact⟨n1,0,Nat.le_refl _,rfl,rfl,hd (by rw[List.drop_of_length_le (by have:=H1.o;omega),List.drop_of_length_le (by have:=H2.o;omega)])⟩
  case round=>
   obtain⟨k,q,hk,rfl,rfl,HD⟩:=hrel;by_cases hk0:k=0
   ·subst hk0
    have HE:Hd (l1=l2):=hd HD.o;go_wp2;go_ret;exact⟨ret_int (by rw[←EA.o,←EB.o,HE.o,FB.cmp_eq]),bel_drew (Below.refl _ _) _⟩
   ·obtain⟨j,rfl⟩:∃j,k=j+1:=⟨k-1,by omega⟩
    have ej:((j+1:Nat):Int)-1=j:=(by omega);rw[ej];have hj1:j<l1.length:=(by have:=H1.o;omega);have hj2:j<l2.length:=(by have:=H2.o;omega);have hl12:l1.length=l2.length:=(by rw[←H1.o,←H2.o]);have HLT:=hd (fun (h:l1[j]<l2[j])=>FB.lt_at HA2.o.2.2 hl12 hj1 hj2 HD.o h);have HGT:=hd (fun (h:l2[j]<l1[j])=>FB.lt_at HB2.o.2.2 hl12.symm hj2 hj1 HD.o.symm h);have HEQ:=hd (fun (h:l1[j]=l2[j])=>show l1.drop j=l2.drop j by rw[List.drop_eq_getElem_cons hj1,List.drop_eq_getElem_cons hj2,h,HD.o]);obtain⟨b1,o1,rfl,hb1,d1⟩:=HA2.o.at_ (by omega);obtain⟨b2,o2,rfl,hb2,d2⟩:=HB2.o.at_ (by omega);have d1:=d1 j hj1
    have d2:=d2 j hj2;clear hl12;generalize l1[j]'hj1=x at d1 HLT HGT HEQ;generalize l2[j]'hj2=y at d2 HLT HGT HEQ;clear hj1 hj2;have hjn:(j:Int)<(n1:Int):=(by omega);have hj0:(0:Int)≤(j:Int):=(by omega);rcases Nat.lt_trichotomy x y with c|c|c
    ·go_wp2_with fail
     go_quiet (fail)
     go_wp2;go_ret;exact⟨ret_int (by rw[←EA.o,←EB.o,FB.cmp_lt (HLT.o c)]),bel_drew (bel_drew (Below.refl _ _) _) _⟩
    ·subst c
     go_wp2_with fail
     go_quiet (fail)
     go_wp2
     go_quiet (fail)
     go_wp2;go_roundw
     case rel=>exact⟨j,_,by omega,by go_num,rfl,hd (HEQ.o trivial)⟩
     case measure=>simp[intOf]
    ·go_wp2_with fail
     go_quiet (fail)
     go_wp2
     go_quiet (fail)
     go_wp2;go_ret;exact⟨ret_int (by rw[←EA.o,←EB.o,FB.cmp_gt (HGT.o c)]),bel_drew (bel_drew (bel_drew (Below.refl _ _) _) _) _⟩
 ·have hne:((n1:Int)!=(n2:Int))=true:=by rw[bne_iff_ne];omega
  have HQ:Hd (FB.cmp (FB.val a) (FB.val b)=1):=hd (by rw[←EA.o,←EB.o];exact FB.cmp_gt (FB.lt_of_len HB2.o.2.2 TA (by rw[←h1,←h2];exact q)));clear h1 h2 TA TB HA1 HB1;go_wp2;go_ret;exact⟨ret_int HQ.o.symm,Below.refl _ _⟩
namespace FB
def dig (l:List Nat)(k:Nat):Nat:=l.getD k 0
end FB
theorem own_snoc {w:World}{B:Nat}{e:TypeId}{v:Value}{O:List Nat}{E:Int}{N d:Nat}{xs:List Value}(h:w.ownsRow B e 1 v N xs)(hN:N=O.length+1)(hx:xs=cellsN O++[Value.int .u32 E])(hE:E=(d:Int)) :
  w.ownsRow B e 1 v (O++[d]).length (cellsN (O++[d])):=by
 subst hE hN hx;rw[←cellsN_snoc,List.length_append];exact h
theorem isN_lit (w:World)(C:Array Value)(e:TypeId)(l:List Nat)(hC:C.toList=cellsN l)(hW:FB.W l):IsN (w.alloc (.cells C e)) (.slice (some ⟨w.heap.size,0,none⟩) l.length l.length) l:=by
 refine⟨⟨_,_,rfl,Nat.le_refl _⟩,⟨by rw[cellsN_len];omega,_,_,rfl,fun k hk=>⟨_,_,rfl,?_⟩⟩,hW⟩;rw[Nat.zero_add,World.cell?_alloc_mark,←Array.getElem?_toList,hC,List.getElem?_eq_getElem hk]
namespace FB
theorem ten_lt (n:Nat):10^n<4294967296^(n+1):=
 Nat.lt_of_le_of_lt (Nat.pow_le_pow_left (by decide) n) (Nat.pow_lt_pow_right (by decide) (by omega))
end FB
theorem power_any (n:Nat)(w:World)(hn:n≤10000) :
  Calls prog 130 #[.int .u32 10,.int .i64 (n:Int)] w fun e w'=>NumAns w (10^n) e w':=by
 go_enter func130,ntmps130;go_wp2;go_loopw [1,5] (fun x v wr=>∃(j:Nat) (A:Option Addr) (c q:Nat),j≤n∧x=.int .i64 j∧v=.slice A q c∧Hd (∃l,q=l.length∧IsN wr v l∧FB.Tr l∧FB.val l*10^j=10^n)∧Hd (Below w.heap.size w wr)) (fun x _ _=>(intOf x).toNat)
 case atStart=>exact⟨n,_,_,_,Nat.le_refl _,rfl,rfl,hd ⟨[1],rfl,isN_lit w _ _ [1] rfl (FB.W.one (by decide)),fun h=>by simp,by simp[FB.val]⟩,hd ((Below.refl _ _).alloc (Nat.le_refl _) _)⟩
 case round=>
  obtain⟨j,A,c,q,hj,rfl,rfl,HN,HB⟩:=hrel;by_cases hj0:j=0
  ·subst hj0
   go_wp2;go_ret;obtain⟨l,hq,h1,h2,h3⟩:=HN.o;exact⟨_,l,rfl,h1,h2,by rw[←h3];simp,HB.o⟩
  ·have hjp:(0:Int)<(j:Int):=by omega
   go_wp2
   go_loop [1,6,7] (fun x p i=>∃a P:Nat,a≤9∧a≤j∧x=.int .i64 ((j:Int)-a)∧p=.int .u32 (P:Int)∧i=.int .i64 a∧Hd (P=10^a)) (fun x p i=>9-(intOf i).toNat)
   case atStart=>exact⟨0,1,by omega,by omega,by simp,rfl,rfl,hd rfl⟩
   case round=>
    obtain⟨a,P,ha9,haj,rfl,rfl,rfl,HP⟩:=hrel;have hP9:P≤1000000000:=(by rw[HP.o];exact Nat.pow_le_pow_right (by decide) ha9);by_cases hgo:a<9∧a<j
    ·obtain⟨g1,g2⟩:=hgo
     have g3:(0:Int)<(j:Int)-a:=(by omega);have hP8:P≤100000000:=(by rw[HP.o];exact Nat.pow_le_pow_right (by decide) (show a≤8 by omega));have HP2:Hd (P*10=10^(a+1)):=hd (by rw[HP.o,Nat.pow_succ]);go_wp2
     go_round
     case rel=>exact⟨_,_,_,⟨a+1,by omega,by omega,rfl,P*10,rfl,rfl,HP2⟩,by go_num,by go_num,by go_num⟩
     case measure=>simp[intOf];omega
    ·obtain⟨T,hT⟩:∃T:Nat,j=T+a:=⟨j-a,by omega⟩
     have HPw:Hd (10^j=10^T*P):=hd (by rw[HP.o,hT,Nat.pow_add]);have HL:Hd (∀l,IsN wr (.slice A q c) l∧FB.Tr l∧FB.val l*10^j=10^n→l.length≤10001):=hd fun l h=>by
      have h1:FB.val l≤10^n:=by
       rw[←h.2.2];exact Nat.le_mul_of_pos_right _ (Nat.pow_pos (by decide))
      have:=h.2.1.len (Nat.lt_of_le_of_lt h1 (FB.ten_lt n));omega
     obtain⟨l,hq,h1,h2,h3⟩:=HN.o;have CT:=hd (times_any _ l P 0 _ h1 (by have:=HL.o l ⟨h1,h2,h3⟩;omega) (by omega) (by omega));have H3:=hd h3;clear h1 h2 h3 hq;have ej:(j:Int)-a=(T:Int):=(by omega);rw[ej];by_cases h9:a<9
     ·have hT0:T=0:=by omega
      subst hT0;go_wp2_with (go_at_call 155;refine CT.o.mono ?_;rintro e w4 ⟨v4,l4,rfl,h1,h2,h4,h5⟩;have H1:=hd h1;have H2:=hd h2;have H4:=hd h4;have H5:=hd h5;obtain⟨⟨A4,c4,rfl,_⟩,_⟩:=h1;clear h2 h4 h5)
      go_roundw
      case rel=>exact⟨0,A4,c4,_,by omega,rfl,rfl,hd ⟨l4,rfl,H1.o,H2.o,by rw[H4.o,Nat.add_zero,←H3.o,HPw.o,Nat.mul_comm (10^0),←Nat.mul_assoc]⟩,hd (bel HB.o H5.o)⟩
      case measure=>simp[intOf];omega
     ·have h9a:a=9:=by omega
      subst h9a;go_wp2_with (go_at_call 155;refine CT.o.mono ?_;rintro e w4 ⟨v4,l4,rfl,h1,h2,h4,h5⟩;have H1:=hd h1;have H2:=hd h2;have H4:=hd h4;have H5:=hd h5;obtain⟨⟨A4,c4,rfl,_⟩,_⟩:=h1;clear h2 h4 h5)
      go_roundw
      case rel=>exact⟨T,A4,c4,_,by omega,rfl,rfl,hd ⟨l4,rfl,H1.o,H2.o,by rw[H4.o,Nat.add_zero,←H3.o,HPw.o,Nat.mul_comm (10^T),←Nat.mul_assoc]⟩,hd (bel HB.o H5.o)⟩
      case measure=>simp[intOf];omega
section
variable {P:Program} {ops:Array Oper} {rest:List Oper} {o:Oper} {a:Act} {Q:Exit→Act→World→Prop}
theorem wpList_mkz (w:World)(t e:TypeId)(z:Value)(bytes:Nat)(ht:P.underlying t=some (.slice e))(hinfo:(P.info? e).map (fun i=>(i.zero,i.size,i.bytes))=some (some z,1,bytes))(hz1:z.cells=#[z])
  (hgd:o.guard=none)(l c:Operand)(hop:o.op=Op.makeSlice t l c)(B:Nat)(kl kc:IntKind)(L C:Int)(n m:Nat)(hl:a.eval l=.int kl L)(hc:a.eval c=.int kc C)(hL:L=(n:Int))(hC:C=(m:Int))(hnm:n≤m)
  (hb:bytes*m≤281474976710656)(hn:m≤9223372036854775807)(hB:B≤w.heap.size)
  (h:∀w',w'.ownsRow B e 1 (.slice (some ⟨w.heap.size,0,none⟩) n m) n (List.replicate n z)→w.grownBy w' none→wpList P ops Q rest (a.put o.dst (.slice (some ⟨w.heap.size,0,none⟩) n m)) w') :
  wpList P ops Q (o::rest) a w:=by
 obtain⟨i,hi,q0,q1,q2⟩:=info_parts hinfo;refine wpList_plain hgd fun K hK'=>?_
 have hb':(i.bytes:Int)*(m:Int)≤281474976710656:=by
  have h:((i.bytes*m:Nat):Int)≤281474976710656:=(by rw[q2];omega);rwa[Int.natCast_mul]at h
 have hr:=run_make (P:=P) w t e i z ht hi q0 kl kc n m (by omega) (by omega) hb' (by omega);simp only[Int.toNat_natCast,q1,Nat.mul_one]at hr;subst hL;subst hC;unfold Oper.wp;simp[execOp,hop,hl,hc,hr,Result.andThen];refine hK' _ _ (h _ ⟨by simp,.inr ⟨w.heap.size,m,madeCells z.cells m,rfl,hB,heap_alloc_new w _,hnm,by unfold maxLen;omega,by rw[size_madeCells];omega,?_⟩⟩ (World.grownBy_alloc w _ none));rw[hz1,toList_madeCells_one,List.take_replicate];congr 1
 omega
end
namespace FB
theorem val_set:∀(l:List Nat) (p x:Nat) (h:p<l.length),val (l.set p x)+4294967296^p*l[p]=val l+4294967296^p*x
 |y::l,0,x,h=>by simp[val];omega
 |y::l,p+1,x,h=>by
  have h1:=val_set l p x (by simpa using h);rw[List.set_cons_succ,val,val,List.getElem_cons_succ,Nat.pow_succ,Nat.mul_comm _ 4294967296,Nat.mul_assoc,Nat.mul_assoc];omega
theorem W.set {l:List Nat}(h:W l){p x:Nat}(hx:x<4294967296):W (l.set p x):=fun y hy=>by
 rcases List.mem_or_eq_of_mem_set hy with h1|h1
 ·exact h y h1
 ·omega
theorem prod_step {R:List Nat}{i j C x y z V:Nat}{VBj:Nat}(hp:i+j<R.length)(hz:R[i+j]=z)(h:val R+4294967296^(i+j)*C=V+4294967296^i*x*VBj) :
  val (R.set (i+j) ((C+(z+x*y))%4294967296))+4294967296^(i+(j+1))*((C+(z+x*y))/4294967296)=V+4294967296^i*x*(VBj+4294967296^j*y):=by
 have h1:=val_set R (i+j) ((C+(z+x*y))%4294967296) hp;rw[hz]at h1;have e1:4294967296^(i+(j+1))*((C+(z+x*y))/4294967296)=4294967296^(i+j)*(4294967296*((C+(z+x*y))/4294967296)):=by
  rw[←Nat.add_assoc,Nat.pow_succ,Nat.mul_assoc]
 have e2:4294967296^(i+j)*((C+(z+x*y))%4294967296)+4294967296^(i+j)*(4294967296*((C+(z+x*y))/4294967296))=4294967296^(i+j)*C+4294967296^(i+j)*z+4294967296^(i+j)*(x*y):=by
  rw[←Nat.mul_add,Nat.mod_add_div,Nat.mul_add,Nat.mul_add];omega
 have e3:4294967296^i*x*(VBj+4294967296^j*y)=4294967296^i*x*VBj+4294967296^(i+j)*(x*y):=by
  rw[Nat.mul_add,Nat.pow_add];congr 1
  ac_rfl
 rw[e1,e3];omega
end FB
theorem cellsN_set (l:List Nat)(p x:Nat):(cellsN l).set p (.int .u32 (x:Int))=cellsN (l.set p x):=by simp[cellsN,List.map_set]
theorem cellsN_zero (n:Nat):List.replicate n (Value.int .u32 0)=cellsN (List.replicate n 0):=by simp[cellsN]
theorem product_any (va vb:Value)(a b:List Nat)(w:World)(ha:IsN w va a)(hb:IsN w vb b)(hna:a.length≤40000)(hnb:b.length≤40000) :
  Calls prog 131 #[va,vb] w fun e w'=>NumAns w (FB.val a*FB.val b) e w':=by
 have HA:=hd ha;have HB:=hd hb;obtain⟨⟨Aa,ca,rfl,hca⟩,_⟩:=id ha;obtain⟨⟨Ab,cb,rfl,hcb⟩,_⟩:=id hb;obtain⟨n,hnl⟩:∃n,n=a.length:=⟨_,rfl⟩
 obtain⟨m,hml⟩:∃m,m=b.length:=⟨_,rfl⟩
 have HN:=hd hnl;have HM:=hd hml;rw[←hnl]at HA hna hca ⊢;rw[←hml]at HB hnb hcb ⊢;clear ha hb hnl hml;go_enter func131,ntmps131;go_wp2_with (at_make;refine wpList_mkz _ 157 142 (.int .u32 0) 4 underlying157 info_u32 rfl rfl _ _ rfl w.heap.size _ _ _ _ (n+m) (n+m) rfl rfl (by omega) (by omega) (by omega) ?b1 ?b2 ?b3 ?_)
 case b1=>omega
 case b2=>omega
 case b3=>exact Nat.le_refl _
 intro w2 ho hg;have hb2:Below w.heap.size w w2:=bel_grown (Below.refl _ _) hg (fun k h=>by cases h);clear hg;rw[cellsN_zero]at ho;go_wp2;go_loopw [6] (fun i wr=>∃(k:Nat) (R:List Nat),k≤n∧i=.int .i64 k∧R.length=n+m∧Hd (wr.ownsRow w.heap.size 142 1 (.slice (some ⟨w.heap.size,0,none⟩) (n+m) (n+m)) (n+m) (cellsN R))∧Hd (Below w.heap.size w wr)∧Hd (FB.W R)∧Hd (∀p (h:p<R.length),k+m≤p→R[p]=0)∧Hd (FB.val R=FB.val (a.take k)*FB.val b)) (fun x wr=>n-(intOf x).toNat)
 case atStart=>exact⟨0,List.replicate (n+m) 0,Nat.zero_le _,rfl,by simp,hd ho,hd hb2,hd (fun x hx=>by rw[List.mem_replicate]at hx;omega),hd (fun p h _=>by simp),hd (by rw[FB.val_zeros (fun x hx=>by rw[List.mem_replicate]at hx;exact hx.2)];simp[FB.val])⟩
 case round=>
  obtain⟨wv,rfl⟩:∃wv:World,wv=wr:=⟨_,rfl⟩
  obtain⟨k,R,hk,rfl,hRl,HO,HBl,HW,HZ,HV⟩:=hrel;have hz1:w.heap.size≤wv.heap.size:=HBl.o.size;by_cases hlt:k<n
  ·have hkl:k<a.length:=by rw[←HN.o];exact hlt
   obtain⟨b1,o1,rfl,hb1,d1⟩:=HA.o.at_ (by omega);have D1:=hd (d1 k hkl);have hx:=HA.o.2.2 _ (List.getElem_mem hkl);have HS:=hd (FB.val_take_succ hkl);clear d1;generalize a[k]'hkl=x at D1 hx HS;have hki:(k:Int)<(n:Int):=(by omega);go_wp2
   go_loopw [7,8] (fun q j wr=>∃(t C:Nat) (R:List Nat),t≤m∧j=.int .i64 t∧q=.int .u64 C∧C<4294967296∧R.length=n+m∧Hd (wr.ownsRow w.heap.size 142 1 (.slice (some ⟨w.heap.size,0,none⟩) (n+m) (n+m)) (n+m) (cellsN R))∧Hd (Below w.heap.size w wr)∧Hd (FB.W R)∧Hd (∀p (h:p<R.length),k+m≤p→R[p]=0)∧Hd (FB.val R+4294967296^(k+t)*C=FB.val (a.take k)*FB.val b+4294967296^k*x*FB.val (b.take t))) (fun q j wr=>m-(intOf j).toNat)
   case atStart=>exact⟨0,0,R,Nat.zero_le _,rfl,rfl,by decide,hRl,HO,HBl,HW,HZ,hd (by simp[FB.val,HV.o])⟩
   case round=>
    clear HO HW HZ HV hz1 HBl hRl;obtain⟨t,C,R,ht,rfl,rfl,hC,hRl,HO,HBl,HW,HZ,HV⟩:=hrel;have hz1:w.heap.size≤wr.heap.size:=HBl.o.size;by_cases htm:t<m
    ·have htl:t<b.length:=by rw[←HM.o];exact htm
     obtain⟨b2,o2,rfl,hb2,d2⟩:=HB.o.at_ (by omega);have d2:=(HBl.o.cell (p:=⟨b2,o2+t,none⟩) hb2).trans (d2 t htl);have d1:=(HBl.o.cell (p:=⟨b1,o1+k,none⟩) hb1).trans D1.o;have hy:=HB.o.2.2 _ (List.getElem_mem htl);have HT:=hd (FB.val_take_succ htl);generalize b[t]'htl=y at d2 hy HT;have hkt:k+t<R.length:=(by omega);have d3:=row_cell HO.o rfl (k+t) (by rw[cellsN_len];exact hkt);have e3:(cellsN R)[k+t]'(by rw[cellsN_len];exact hkt)=.int .u32 ((R[k+t]'hkt:Nat):Int):=(by simp[cellsN]);rw[e3]at d3;clear e3;have hz:=HW.o _ (List.getElem_mem hkt);generalize hzz:R[k+t]'hkt=z at d3 hz;have HRz:=hd hzz
     clear hzz;have f3:=HO.o.frozenAt (k+t);have hxy:x*y≤4294967295*4294967295:=Nat.mul_le_mul (by omega) (by omega);generalize hpp:x*y=pp at hxy;have hpi:(x:Int)*(y:Int)=(pp:Int):=(by rw[←hpp];exact(Int.natCast_mul x y).symm);have hti:(t:Int)<(m:Int):=(by omega);go_wp2_with fail
     go_quiet (fail)
     go_wp2;go_roundw
     case rel=>
      have hst:=stored_row (w:=wr.drewN nq) HO.o (k+t) (.int .u32 (((C+(z+pp))%4294967296:Nat):Int));rw[cellsN_set]at hst;have ec:(((C+(z+pp))%4294967296:Nat):Int)=((C:Int)+((z:Int)+pp))%4294967296:=(by omega);rw[ec]at hst;refine⟨t+1,(C+(z+pp))/4294967296,_,by omega,by go_num,by go_num,by omega,by rw[List.length_set];exact hRl,hd hst.1,hd (bel_grown (bel_drew HBl.o nq) hst.2 (fun g h=>by cases h;exact Nat.le_refl _)),hd (HW.o.set (Nat.mod_lt _ (by decide))),hd (fun p h hp=>?_),hd ?_⟩
      ·rw[List.getElem_set_ne (by omega)]
       exact HZ.o p (by simpa using h) hp
      ·rw[HT.o,←hpp]
       exact FB.prod_step hkt HRz.o HV.o
     case measure=>simp[intOf];omega
    ·have htm2:t=m:=by omega
     have HTK:=hd (List.take_of_length_le (l:=b) (i:=t) (by have:=HM.o;omega));subst htm2;have hkt:k+t<R.length:=(by omega);have d3:=row_cell HO.o rfl (k+t) (by rw[cellsN_len];exact hkt);have f3:=HO.o.frozenAt (k+t);have hti:(k:Int)+(t:Int)<(n:Int)+(t:Int):=(by omega);go_wp2;go_roundw
     case rel=>
      have hst:=stored_row (w:=wr) HO.o (k+t) (.int .u32 (C:Int));rw[cellsN_set]at hst;refine⟨k+1,_,by omega,by go_num,by rw[List.length_set];exact hRl,hd hst.1,hd (bel_grown HBl.o hst.2 (fun g h=>by cases h;exact Nat.le_refl _)),hd (HW.o.set hC),hd (fun p h hp=>?_),hd ?_⟩
      ·rw[List.getElem_set_ne (by omega)]
       exact HZ.o p (by simpa using h) (by omega)
      ·have h1:=FB.val_set R (k+t) C hkt
       rw[HZ.o (k+t) hkt (Nat.le_refl _),Nat.mul_zero,Nat.add_zero]at h1;rw[h1,HV.o,HS.o,HTK.o,Nat.add_mul]
     case measure=>simp[intOf];omega
  ·have hkn:k=n:=by omega
   have CT:=hd (trim_any _ R _ (IsN.own (v:=.slice (some ⟨w.heap.size,0,none⟩) (n+m) (n+m)) (by rw[hRl];exact HO.o) HW.o) (by omega));go_wp2_with (go_at_call 156;refine CT.o.mono ?_;rintro e w4 ⟨v4,l4,rfl,h1,h2,h3,h4⟩;have H1:=hd h1;have H2:=hd h2;have H3:=hd h3;have H4:=hd h4;clear h1 h2 h3 h4)
   go_ret;refine⟨_,l4,rfl,H1.o,H2.o,?_,bel HBl.o H4.o⟩;rw[H3.o,HV.o,hkn,List.take_of_length_le (by have:=HN.o;omega)]
end Go.Proofs.YtieknenhfeejiaaGreatDoor
namespace Go.Proofs.YtieknenhfeejiaaGreatDoor
open _root_.Go.Proofs.Tryz
open Go.RowKit
namespace FB
theorem shift_step {O:List Nat}{q k C x s V:Nat}(hO:O.length=q+k)(h:val O+4294967296^(q+k)*C=V*(4294967296^q*2^s)) :
  val (O++[(C+x*2^s)%4294967296])+4294967296^(q+(k+1))*((C+x*2^s)/4294967296)=(V+4294967296^k*x)*(4294967296^q*2^s):=by
 rw[val_snoc,hO,←Nat.add_assoc q k 1,Nat.pow_succ,Nat.add_assoc,Nat.mul_assoc,←Nat.mul_add,Nat.mod_add_div,Nat.mul_add,←Nat.add_assoc,h,Nat.add_mul,Nat.pow_add];congr 1
 ac_rfl
end FB
theorem shifted_any (v:Value)(l:List Nat)(N:Nat)(w:World)(h:IsN w v l)(hn:l.length≤50000)(hN:N≤100000) :
  Calls prog 169 #[v,.int .i64 (N:Int)] w fun e w'=>NumAns w (FB.val l*2^N) e w':=by
 obtain⟨⟨A,cp,rfl,hcp⟩,_⟩:=id h;have H:=hd h;obtain⟨n,hnl⟩:∃n,n=l.length:=⟨_,rfl⟩
 have HN:=hd hnl;rw[←hnl]at H hcp hn ⊢;clear h hnl;obtain⟨q,s,hs,hqs⟩:∃q s,s<32∧N=32*q+s:=⟨N/32,N%32,Nat.mod_lt _ (by decide),(Nat.div_add_mod N 32).symm⟩
 have HP:Hd (2^N=4294967296^q*2^s):=hd (by rw[hqs,Nat.pow_add,Nat.pow_mul]);have e1:(N:Int)/32=q:=(by omega);have e2:(N:Int)%32=s:=(by omega);clear hqs;go_enter func169,ntmps169;go_wp2_with (at_make;refine wpList_mkz _ 157 142 (.int .u32 0) 4 underlying157 info_u32 rfl rfl _ _ rfl w.heap.size _ _ _ _ q (n+q+1) rfl rfl (by omega) (by omega) (by omega) ?b1 ?b2 ?b3 ?_)
 case b1=>omega
 case b2=>omega
 case b3=>exact Nat.le_refl _
 intro w2 ho hg;have hb2:Below w.heap.size w w2:=bel_grown (Below.refl _ _) hg (fun k h=>by cases h);clear hg;rw[cellsN_zero]at ho;go_wp2;go_loopw [5,6,7] (fun o p x wr=>∃(k:Nat) (O:List Nat) (C:Nat),k≤n∧x=.int .i64 k∧p=.int .u64 C∧Hd (C<2^s)∧Hd (wr.ownsRow w.heap.size 142 1 o O.length (cellsN O))∧Hd (Below w.heap.size w wr)∧O.length=q+k∧Hd (FB.W O)∧Hd (FB.val O+4294967296^(q+k)*C=FB.val (l.take k)*(4294967296^q*2^s))) (fun o q x wr=>n-(intOf x).toNat)
 case atStart=>exact⟨0,List.replicate q 0,0,Nat.zero_le _,rfl,rfl,hd (Nat.two_pow_pos s),hd (by simpa using ho),hd hb2,by simp,hd (fun x hx=>by rw[List.mem_replicate]at hx;omega),hd (by rw[FB.val_zeros (fun x hx=>by rw[List.mem_replicate]at hx;exact hx.2)];simp[FB.val])⟩
 case round=>
  obtain⟨k,O,C,hk,rfl,rfl,HC,HO,HB,hOl,HW,HV⟩:=hrel;have hz1:w.heap.size≤wr.heap.size:=HB.o.size;by_cases hlt:k<n
  ·have hkl:k<l.length:=by rw[←HN.o];exact hlt
   obtain⟨b,off,rfl,hbl,hcell⟩:=H.o.at_ (by omega);have d1:=(HB.o.cell (p:=⟨b,off+k,none⟩) hbl).trans (hcell k hkl);have hx:=H.o.2.2 _ (List.getElem_mem hkl);have HS:=hd (FB.val_take_succ hkl);clear hcell;generalize l[k]'hkl=x at d1 hx HS;have hC:=HC.o;have hp31:2^s≤2147483648:=Nat.pow_le_pow_right (by decide) (show s≤31 by omega);have hxs:x*2^s≤4294967295*2147483648:=Nat.mul_le_mul (by omega) hp31;have hC1:(C+x*2^s)/4294967296<2^s:=by
    rw[Nat.div_lt_iff_lt_mul (by decide)];have h1:(x+1)*2^s≤4294967296*2^s:=Nat.mul_le_mul_right _ (by omega);rw[Nat.add_mul]at h1;omega
   have hor:C |||x*2^s=C+x*2^s:=by
    have:=Nat.two_pow_add_eq_or_of_lt hC x;rw[Nat.or_comm,Nat.mul_comm,←this];omega
   have hC32:C<2147483648:=(by omega);obtain⟨y,hy⟩:∃y,y=x*2^s:=⟨_,rfl⟩
   rw[←hy]at hxs hC1 hor;have q0:IntKind.u64.wrap ((x:Int)*2^s)=(y:Int):=by
    have hc:(x:Int)*2^s=(y:Int):=(by rw[hy];push_cast;rfl);rw[hc,IntKind.wrap_u64];omega
   have q1:bits .or .u64 (C:Int) (IntKind.u64.wrap ((x:Int)*2^s))=(C:Int)+(y:Int):=by
    rw[q0,show bits .or .u64 (C:Int) (y:Int)=((C |||y:Nat):Int) from u64_or_nat C y (by omega) (by omega),hor];omega
   have HC1:=hd hC1;have HY:=hd hy;clear hC hp31 hC1 hor q0 hy HC;go_wp2_with (at_builtin;refine wpList_app_lit 157 142 (.int .u32 0) 1 4 underlying157 info_u32 rfl (by decide) rfl _ _ rfl w.heap.size u5 O.length (cellsN O) wr _ 1 rfl rfl HO.o rfl (by simp[Value.oneCell']) (by omega) (by omega) hz1 ?_)
   intro v3 w3 ho3 hg3;have HO3:=hd (own_snoc (d:=(C+y)%4294967296) ho3 (by omega) rfl (by omega));have HB3:=hd (bel_grown HB.o hg3 (fun g h=>(HO.o.lt g h).1));clear hg3 ho3;go_wp2;go_roundw
   case rel=>
    refine⟨k+1,_,(C+y)/4294967296,by omega,by go_num,by go_num,HC1,HO3,HB3,by simp;omega,hd (FB.W.app HW.o (FB.W.one (Nat.mod_lt _ (by decide)))),hd ?_⟩;rw[HS.o,HY.o];exact FB.shift_step hOl HV.o
   case measure=>simp[intOf];omega
  ·have hkn:k=n:=by omega
   have hC32:C<4294967296:=Nat.lt_of_lt_of_le HC.o (Nat.pow_le_pow_right (by decide) (show s≤32 by omega));go_wp2_with (at_builtin;refine wpList_app_lit 157 142 (.int .u32 0) 1 4 underlying157 info_u32 rfl (by decide) rfl _ _ rfl w.heap.size u5 O.length (cellsN O) wr _ 1 rfl rfl HO.o rfl (by simp[Value.oneCell']) (by omega) (by omega) hz1 ?_)
   intro v3 w3 ho3 hg3;have HO3:=hd (own_snoc (d:=C) ho3 (by omega) rfl (by omega));have HB3:=hd (bel_grown HB.o hg3 (fun g h=>(HO.o.lt g h).1));clear hg3 ho3;have CT:=hd (trim_any v3 (O++[C]) w3 (IsN.own HO3.o (FB.W.app HW.o (FB.W.one hC32))) (by simp;omega));have HT:=hd (List.take_of_length_le (l:=l) (i:=k) (by have:=HN.o;omega));go_wp2_with (go_at_call 156;refine CT.o.mono ?_;rintro e w4 ⟨v4,l4,rfl,h1,h2,h3,h4⟩;have H1:=hd h1;have H2:=hd h2;have H3:=hd h3;have H4:=hd h4;clear h1 h2 h3 h4)
   go_ret;refine⟨_,l4,rfl,H1.o,H2.o,?_,bel HB3.o H4.o⟩;rw[H3.o,FB.val_snoc,hOl,HV.o,HT.o,HP.o]
namespace FB
end FB
def NV (w:World)(v:Value)(N:Nat):Prop:=∃l,IsN w v l∧FB.Tr l∧FB.val l=N
def FB.Lt (k N:Nat):Prop:=N<4294967296^k
theorem NV.below {w w':World}{v:Value}{N:Nat}(h:NV w v N)(hb:Below w.heap.size w w'):NV w' v N:=by
 obtain⟨l,h1,h2,h3⟩:=h;exact⟨l,h1.below hb,h2,h3⟩
theorem NumAns.nv {w w':World}{N:Nat}{e:Ending}(h:NumAns w N e w'):∃v,e=.returned v∧NV w' v N∧Below w.heap.size w w':=by
 obtain⟨v,l,h1,h2,h3,h4,h5⟩:=h;exact⟨v,h1,⟨l,h2,h3,h4⟩,h5⟩
theorem FB.Lt.mul {k N m j:Nat}(h:FB.Lt k N)(hm:m<4294967296^j):FB.Lt (k+j) (N*m):=by
 unfold FB.Lt at *;rw[Nat.pow_add];exact Nat.mul_lt_mul'' h hm
theorem cmp_nv (va vb:Value)(a b:Nat)(w:World)(k:Nat)(ha:NV w va a)(hb:NV w vb b)(hka:FB.Lt k a)(hkb:FB.Lt k b)(hk2:k≤10000) :
  Calls prog 168 #[va,vb] w fun e w'=>e=.returned (.int .i64 (FB.cmp a b))∧Below w.heap.size w w':=by
 obtain⟨l,h1,h2,rfl⟩:=ha;obtain⟨m,j1,j2,rfl⟩:=hb;have hl:=h2.len hka;have hm:=j2.len hkb;exact compare_any va vb l m w h1 j1 (by omega) (by omega)
theorem prod_nv (va vb:Value)(a b:Nat)(w:World)(k:Nat)(ha:NV w va a)(hb:NV w vb b)(hka:FB.Lt k a)(hkb:FB.Lt k b)(hk2:k≤10000) :
  Calls prog 131 #[va,vb] w fun e w'=>∃v',e=.returned v'∧NV w' v' (a*b)∧Below w.heap.size w w':=by
 obtain⟨l,h1,h2,rfl⟩:=ha;obtain⟨m,j1,j2,rfl⟩:=hb;have hl:=h2.len hka;have hm:=j2.len hkb;exact(product_any va vb l m w h1 j1 (by omega) (by omega)).mono fun _ _ h=>h.nv
theorem pow_nv (n:Nat)(w:World)(hn:n≤10000) :
  Calls prog 130 #[.int .u32 10,.int .i64 (n:Int)] w fun e w'=>∃v',e=.returned v'∧NV w' v' (10^n)∧Below w.heap.size w w':=
 (power_any n w hn).mono fun _ _ h=>h.nv
theorem shift_nv (v:Value)(N n:Nat)(w:World)(k:Nat)(h:NV w v N)(hk:FB.Lt k N)(hk2:k≤10000)(hn:n≤10000) :
  Calls prog 169 #[v,.int .i64 (n:Int)] w fun e w'=>∃v',e=.returned v'∧NV w' v' (N*2^n)∧Below w.heap.size w w':=by
 obtain⟨l,h1,h2,rfl⟩:=h;have hl:=h2.len hk;exact(shifted_any v l n w h1 (by omega) (by omega)).mono fun _ _ h=>h.nv
end Go.Proofs.YtieknenhfeejiaaGreatDoor
