/- What readFloat computes over a decimal lexeme, in plain words. No function of .. -/
import Derived.Test.YtieknenhfeejiaaGreatDoorPPar
import Derived.Shelf.Strconv.RangeError
set_option maxRecDepth 100000
set_option maxHeartbeats 4000000
set_option linter.unusedVariables false
set_option linter.unusedSimpArgs false
namespace Go.Proofs.YtieknenhfeejiaaGreatDoor
open _root_.Go.Proofs.Tryz
namespace PF
structure St where
 m:Nat
 nd:Nat
 nm:Nat
 dp:Int
 sd:Bool
 sg:Bool
 tr:Bool
def st0:St:=⟨0,0,0,0,false,false,false⟩
def step (st:St)(c:Nat):Option St:=
 if c=46 then(if st.sd then none else some { st with sd:=true,dp:=st.nd })
 else if 48≤c∧c≤57 then
  (if c=48∧st.nd=0 then some { st with sg:=true,dp:=st.dp-1 }
   else if st.nm<19 then some { st with sg:=true,nd:=st.nd+1,m:=st.m*10+(c-48),nm:=st.nm+1 }
   else some { st with sg:=true,nd:=st.nd+1,tr:=st.tr ||decide (c≠48) })
 else none
def loop:List UInt8→St→St×List UInt8
 |[],st=>(st,[])
 |c::r,st=>match step st c.toNat with
  |some st'=>loop r st'
  |none=>(st,c::r)
theorem loop_some {c:UInt8}{r:List UInt8}{st st':St}(h:step st c.toNat=some st'):loop (c::r) st=loop r st':=by simp only[loop,h]
theorem loop_none {c:UInt8}{r:List UInt8}{st:St}(h:step st c.toNat=none):loop (c::r) st=(st,c::r):=by simp only[loop,h]
def eloop:List UInt8→Nat→Nat
 |[],e=>e
 |c::r,e=>eloop r (if e<10000 then e*10+(c.toNat-48) else e)
def dpOf (st:St):Int:=if st.sd then st.dp else st.nd
def expOf:List UInt8→Int
 |[]=>0
 |_::r=>(eloop (r.drop (PN.sgl r)) 0:Int)*(match r with|d::_=>if d.toNat=45 then -1 else 1|[]=>1)
def expOk:List UInt8→Prop
 |[]=>True
 |c::r=>(c.toNat=101∨c.toNat=69)∧0<(r.drop (PN.sgl r)).length∧∀x∈r.drop (PN.sgl r),48≤x.toNat∧x.toNat≤57
structure Bd (st:St)(k:Nat):Prop where
 nm:st.nm≤19
 nd:st.nd≤k
 dl : -(k:Int)≤st.dp
 du:st.dp≤k
 m:st.m<10^st.nm
theorem Bd.start:Bd st0 0:=⟨by decide,by decide,by decide,by decide,by decide⟩
theorem Bd.step {st st':St}{k c:Nat}(B:Bd st k)(h:step st c=some st'):Bd st' (k+1):=by
 obtain⟨b1,b2,b3,b4,b5⟩:=B;unfold PF.step at h;split at h
 ·split at h
  ·cases h
  ·obtain rfl:=Option.some.inj h
   exact⟨b1,by show st.nd≤k+1;omega,by show -((k+1:Nat):Int)≤(st.nd:Int);omega,by show (st.nd:Int)≤((k+1:Nat):Int);omega,b5⟩
 ·split at h
  ·rename_i hc
   split at h
   ·obtain rfl:=Option.some.inj h
    exact⟨b1,by show st.nd≤k+1;omega,by show -((k+1:Nat):Int)≤st.dp-1;omega,by show st.dp-1≤((k+1:Nat):Int);omega,b5⟩
   ·split at h
    ·obtain rfl:=Option.some.inj h
     refine⟨by show st.nm+1≤19;omega,by show st.nd+1≤k+1;omega,by show -((k+1:Nat):Int)≤st.dp;omega,by show st.dp≤((k+1:Nat):Int);omega,?_⟩;show st.m*10+(c-48)<10^(st.nm+1)
     rw[Nat.pow_succ];omega
    ·obtain rfl:=Option.some.inj h
     exact⟨b1,by show st.nd+1≤k+1;omega,by show -((k+1:Nat):Int)≤st.dp;omega,by show st.dp≤((k+1:Nat):Int);omega,b5⟩
  ·cases h
theorem Bd.m18 {st:St}{k:Nat}(B:Bd st k)(h:st.nm<19):st.m<1000000000000000000:=
 Nat.lt_of_lt_of_le B.m (Nat.pow_le_pow_right (by decide) (show st.nm≤18 by omega))
theorem Bd.m64 {st:St}{k:Nat}(B:Bd st k):st.m<10000000000000000000:=
 Nat.lt_of_lt_of_le B.m (Nat.pow_le_pow_right (by decide) B.nm)
end PF
end Go.Proofs.YtieknenhfeejiaaGreatDoor
namespace Go.Proofs.YtieknenhfeejiaaGreatDoor
open _root_.Go.Proofs.Tryz
open Go.RowKit
namespace PF
def low (c:Nat):Nat:=c |||32
theorem low_all:((List.range 256).all fun c=>decide (low c<256) && (decide (low c=120)==decide (c=120∨c=88)) && (decide (low c=101)==decide (c=101∨c=69)) && (decide (low c=112)==decide (c=112∨c=80)))=true:=by decide +kernel
theorem low_at {c:Nat}(h:c<256):low c<256∧(low c=120↔c=120∨c=88)∧(low c=101↔c=101∨c=69)∧(low c=112↔c=112∨c=80):=by
 have:=List.all_eq_true.1 low_all c (List.mem_range.2 h);simp only[Bool.and_eq_true,decide_eq_true_eq,beq_iff_eq,decide_eq_decide]at this;exact⟨this.1.1.1,this.1.1.2,this.1.2,this.2⟩
end PF
theorem PF.eloop_cons (c:UInt8)(r:List UInt8)(e:Nat):PF.eloop (c::r) e=PF.eloop r (if e<10000 then e*10+(c.toNat-48) else e):=rfl
theorem lower_any (c:Nat)(w:World)(h:c<256) :
  Calls prog 204 #[.int .u8 c] w fun e w'=>e=.returned (.int .u8 (PF.low c:Int))∧w=w':=by
 have q:=u8_or_nat c 32 h (by decide);go_enter func204,ntmps204;go_wp2;go_ret;exact⟨by unfold PF.low;first|rfl|(rw[←q];rfl),rfl⟩
def PF.ansE (st:PF.St)(r:List UInt8):Int:=if st.m=0 then 0 else PF.dpOf st+PF.expOf r-st.nm
structure PF.Dec (s:ByteArray)(st:PF.St)(r:List UInt8):Prop where
 sz:s.size≤600
 lp:PF.loop s.data.toList PF.st0=(st,r)
 sg:st.sg=true
 ex:PF.expOk r
 nu:∀x∈s.data.toList,x.toNat≠95
 n0:∀h:0<s.size,(s[0]'h).toNat≠43∧(s[0]'h).toNat≠45
 nx:∀h:1<s.size,(s[0]'(by omega)).toNat=48→PF.low (s[1]'h).toNat≠120
theorem mem_data {s:ByteArray}{k:Nat}(h:k<s.size):s[k]∈s.data.toList:=by
 have:=data_drop' s k h;exact List.mem_of_mem_drop (i:=k) (by rw[this];exact List.mem_cons_self ..)
theorem readDec_any (s:ByteArray)(st:PF.St)(r:List UInt8)(w:World)(D:PF.Dec s st r) :
  Calls prog 188 #[.string s] w fun e w'=>e=.returned (.tuple #[.int .u64 (st.m:Int),.int .i64 (PF.ansE st r),.bool false,.bool st.tr,.bool false,.int .i64 (s.size:Int),.bool true])∧w=w':=by
 have HD:=hd D;have HSZ:=hd (Lib.size_eq s);have hs:=D.sz;have h0:0<s.size:=by
  rcases Nat.eq_zero_or_pos s.size with c|c
  ·exfalso
   have h1:=D.lp;have h2:=D.sg;have:s.data.toList=[]:=List.eq_nil_of_length_eq_zero (by rw[←Lib.size_eq];exact c);rw[this]at h1;have:st=PF.st0:=(congrArg Prod.fst h1).symm;rw[this]at h2;cases h2
  ·exact c
 have t43:(((s[0]).toNat:Int)==43)=false:=(by rw[bf];have:=(D.n0 h0).1;omega);have t45:(((s[0]).toNat:Int)==45)=false:=(by rw[bf];have:=(D.n0 h0).2;omega);have hne:¬ s=ByteArray.empty:=fun h=>by subst h;exact absurd h0 (by decide)
 clear D;go_enter func188,ntmps188;go_wp2
 go_step3
 go_upto_region 12 with fail
 go_cut [54] from 36 to 54 (fun v wx=>v=.bool false∧wx=w)
 case first=>
  by_cases h2:2<s.size
  ·have hc1:(s[1]).toNat<256:=(s[1]).toNat_lt
   by_cases a0:(s[0]).toNat=48
   ·have t0:(((s[0]).toNat:Int)==48)=true:=by rw[a0];rfl
    have t1:((PF.low (s[1]).toNat:Int)==120)=false:=(by rw[bf];have:=HD.o.nx (by omega) a0;omega);clear a0;go_wp2_with (go_at_call 204;refine(lower_any _ _ hc1).mono ?_;rintro e w' ⟨rfl,rfl⟩)
    go_meet;exact⟨rfl,rfl⟩
   ·have t0:(((s[0]).toNat:Int)==48)=false:=by rw[bf];omega
    clear a0;go_wp2;go_meet;exact⟨rfl,rfl⟩
  ·go_wp2
   go_meet;exact⟨rfl,rfl⟩
 case rest=>
  obtain⟨rfl,rfl⟩:=hcut;go_wp2
  go_step3
  go_wp2
  go_loop [2,5,7,9,13,14,15,16,17] (fun xm xt xi xu xsd xsg xnd xnm xdp=>∃(k:Nat) (q:PF.St),k≤s.size∧xm=.int .u64 (q.m:Int)∧xt=.bool q.tr∧xi=.int .i64 (k:Int)∧xu=.bool false∧xsd=.bool q.sd∧xsg=.bool q.sg∧xnd=.int .i64 (q.nd:Int)∧xnm=.int .i64 (q.nm:Int)∧xdp=.int .i64 q.dp∧Hd (PF.Bd q k)∧Hd (PF.loop (s.data.toList.drop k) q=(st,r))) (fun xm xt xi xu xsd xsg xnd xnm xdp=>s.size-(intOf xi).toNat)
  case atStart=>exact⟨0,PF.st0,Nat.zero_le _,rfl,rfl,rfl,rfl,rfl,rfl,rfl,rfl,rfl,hd PF.Bd.start,hd HD.o.lp⟩
  case round=>
   obtain⟨k,⟨m,nd,nm,dp,sd,sg,tr⟩,hk,rfl,rfl,rfl,rfl,rfl,rfl,rfl,rfl,rfl,HB,HL⟩:=hrel;by_cases hlt:k<s.size
   ·have HDR:=hd (data_drop' s k hlt)
    have hc:(s[k]'hlt).toNat<256:=(s[k]'hlt).toNat_lt;have t95:(((s[k]'hlt).toNat:Int)==95)=false:=(by rw[bf];have:=HD.o.nu _ (mem_data hlt);omega);have YES:∀q',PF.step ⟨m,nd,nm,dp,sd,sg,tr⟩ (s[k]'hlt).toNat=some q'→Hd (PF.loop (s.data.toList.drop (k+1)) q'=(st,r))∧Hd (PF.Bd q' (k+1)):=fun q' h=>⟨hd (by rw[←HL.o,HDR.o,PF.loop_some h]),hd (HB.o.step h)⟩
    have NO:PF.step ⟨m,nd,nm,dp,sd,sg,tr⟩ (s[k]'hlt).toNat=none→st=⟨m,nd,nm,dp,sd,sg,tr⟩∧r=s.data.toList.drop k∧((s[k]'hlt).toNat=101∨(s[k]'hlt).toNat=69):=fun h=>by
     have h1:=HL.o;rw[HDR.o,PF.loop_none h]at h1;have h2:s[k]::List.drop (k+1) s.data.toList=r:=congrArg Prod.snd h1;have h3:=HD.o.ex;rw[←h2]at h3;exact⟨(congrArg Prod.fst h1).symm,by rw[HDR.o];exact h2.symm,h3.1⟩
    have hnd1:nd≤k:=HB.o.nd;have hnm1:nm≤19:=HB.o.nm;have hdp1 : -(k:Int)≤dp:=HB.o.dl;have hdp2:dp≤(k:Int):=HB.o.du;by_cases c46:(s[k]'hlt).toNat=46
    ·have t46:(((s[k]'hlt).toNat:Int)==46)=true:=by rw[c46];rfl
     cases sd with
     |true=>
      have:=(NO (by unfold PF.step;rw[if_pos c46];rfl)).2.2;omega
     |false=>
      obtain⟨H1,H2⟩:=YES _ (by unfold PF.step;rw[if_pos c46];rfl);clear YES NO c46;go_wp2
      go_round
      case rel=>exact⟨k+1,_,by omega,rfl,rfl,by go_num,rfl,rfl,rfl,rfl,rfl,rfl,H2,H1⟩
      case measure=>simp[intOf];omega
    ·have t46:(((s[k]'hlt).toNat:Int)==46)=false:=by rw[bf];omega
     by_cases cd:48≤(s[k]'hlt).toNat∧(s[k]'hlt).toNat≤57
     ·by_cases cz:(s[k]'hlt).toNat=48∧nd=0
      ·obtain⟨H1,H2⟩:=YES _ (by unfold PF.step;rw[if_neg c46,if_pos cd,if_pos cz])
       have t48:(((s[k]'hlt).toNat:Int)==48)=true:=(by rw[cz.1];rfl);obtain⟨cd1,cd2⟩:=cd;obtain⟨_,cz2⟩:=cz;subst cz2;clear YES NO c46;go_wp2
       go_round
       case rel=>exact⟨k+1,_,by omega,rfl,rfl,by go_num,rfl,rfl,rfl,rfl,rfl,rfl,H2,H1⟩
       case measure=>simp[intOf];omega
      ·have tz:((((s[k]'hlt).toNat:Int)==48)=true∧((nd:Int)==0)=false)∨(((s[k]'hlt).toNat:Int)==48)=false:=by
        by_cases e:(s[k]'hlt).toNat=48
        ·left;exact⟨by rw[e];rfl,by rw[bf];omega⟩
        ·right;rw[bf];omega
       by_cases c19:nm<19
       ·obtain⟨H1,H2⟩:=YES _ (by unfold PF.step;rw[if_neg c46,if_pos cd,if_neg cz,if_pos c19])
        have hm18:=HB.o.m18 c19;have hm18:m<1000000000000000000:=hm18;obtain⟨cd1,cd2⟩:=cd;clear YES NO c46 cz;rcases tz with ⟨tz1,tz2⟩|tz1
        all_goals
         go_wp2
         go_round
         case rel=>exact⟨k+1,_,by omega,by go_num,rfl,by go_num,rfl,rfl,rfl,by go_num,by go_num,rfl,H2,H1⟩
         case measure=>simp[intOf];omega
       ·obtain⟨H1,H2⟩:=YES _ (by unfold PF.step;rw[if_neg c46,if_pos cd,if_neg cz,if_neg c19])
        obtain⟨cd1,cd2⟩:=cd;clear YES NO c46 cz;rcases tz with ⟨tz1,tz2⟩|tz1
        ·have tzz:(((s[k]'hlt).toNat:Int)!=48)=false:=by rw[bne_eq_false_iff_eq];simpa using tz1
         have e48:(s[k]'hlt).toNat=48:=(by have:=beq_iff_eq.1 tz1;omega);have et:(tr ||decide ((s[k]'hlt).toNat≠48))=tr:=(by rw[e48];simp);have HE:=hd et;clear et e48;go_wp2
         go_round
         case rel=>exact⟨k+1,_,by omega,rfl,by rw[HE.o],by go_num,rfl,rfl,rfl,by go_num,rfl,rfl,H2,H1⟩
         case measure=>simp[intOf];omega
        ·have tzz:(((s[k]'hlt).toNat:Int)!=48)=true:=by rw[bne_iff_ne];exact bf.1 tz1
         have e48:(s[k]'hlt).toNat≠48:=fun e=>by have:=bf.1 tz1;omega
         have et:(tr ||decide ((s[k]'hlt).toNat≠48))=true:=(by rw[decide_eq_true e48];simp);have HE:=hd et;clear et e48;go_wp2
         go_round
         case rel=>exact⟨k+1,_,by omega,rfl,by rw[HE.o],by go_num,rfl,rfl,rfl,by go_num,rfl,rfl,H2,H1⟩
         case measure=>simp[intOf];omega
     ·obtain⟨h1,h2,h3⟩:=NO (by unfold PF.step;rw[if_neg c46,if_neg cd])
      have c57:57<(s[k]'hlt).toNat:=(by omega);have c48:48≤(s[k]'hlt).toNat:=(by omega);subst h1;have HR:=hd h2.symm;have hsg:sg=true:=HD.o.sg;subst hsg;have EX:((s[k]'hlt).toNat=101∨(s[k]'hlt).toNat=69)∧0<((s.data.toList.drop (k+1)).drop (PN.sgl (s.data.toList.drop (k+1)))).length∧∀x∈(s.data.toList.drop (k+1)).drop (PN.sgl (s.data.toList.drop (k+1))),48≤x.toNat∧x.toNat≤57:=by
       have h4:=HD.o.ex;rw[h2,HDR.o]at h4;exact h4
      have hk1:k+1<s.size:=(by have:=EX.2.1;rw[List.length_drop,List.length_drop,←HSZ.o]at this;omega);subst h2;have t101:((PF.low (s[k]'hlt).toNat:Int)==101)=true:=(by have:=((PF.low_at hc).2.2.1).2 h3;rw[this];rfl);have HD1:=hd (data_drop' s (k+1) hk1);have hc1:(s[k+1]'hk1).toNat<256:=(s[k+1]'hk1).toNat_lt;clear YES NO c46 cd h3 HL HR;by_cases c1:(s[k+1]'hk1).toNat=43
      ·have t1:(((s[k+1]'hk1).toNat:Int)==43)=true:=by rw[c1];rfl
       have hS:PN.sgl (s.data.toList.drop (k+1))=1:=(by rw[HD1.o,PN.sgl_cons,if_pos (.inl c1)]);have HJ:Hd (∀x∈s.data.toList.drop (k+1+1),48≤x.toNat∧x.toNat≤57):=hd (by have:=EX.2.2;rw[hS]at this;simpa[List.drop_drop] using this);have hjl:k+1+1<s.size:=(by have:=EX.2.1;rw[hS,List.length_drop,List.length_drop,←HSZ.o]at this;omega);have hj0:=HJ.o _ (by rw[data_drop' s (k+1+1) hjl];exact List.mem_cons_self ..);have hjc:(s[k+1+1]'hjl).toNat<256:=(s[k+1+1]'hjl).toNat_lt;obtain⟨hj1,hj2⟩:=hj0;obtain⟨E0,hE0⟩:∃E0,E0=PF.eloop (s.data.toList.drop (k+1+1)) 0:=⟨_,rfl⟩
       have HE0:=hd hE0;have HX:Hd (PF.expOf (s.data.toList.drop k)=(E0:Int)*1):=hd (by rw[HDR.o,hE0];show (PF.eloop ((s.data.toList.drop (k+1)).drop (PN.sgl (s.data.toList.drop (k+1)))) 0:Int)*_=_;rw[hS,List.drop_drop];congr 1;rw[HD1.o];simp[c1]);clear hE0 EX hS;cases sd
       ·go_wp2_with (go_at_call 204;refine(lower_any _ _ hc).mono ?_;rintro e w' ⟨rfl,rfl⟩)
        go_loop [7,9,20] (fun xi xu xe=>∃(j e:Nat),k+1+1≤j∧j≤s.size∧e≤110000∧xi=.int .i64 (j:Int)∧xu=.bool false∧xe=.int .i64 (e:Int)∧Hd (PF.eloop (s.data.toList.drop j) e=E0)) (fun xi xu xe=>s.size-(intOf xi).toNat)
        case atStart=>exact⟨k+1+1,0,Nat.le_refl _,by omega,by decide,by go_num,rfl,rfl,hd HE0.o.symm⟩
        case round=>
         obtain⟨j,e,hjk,hjs,he,rfl,rfl,rfl,HEL⟩:=hrel;by_cases hjlt:j<s.size
         ·have HDj:=hd (data_drop' s j hjlt)
          have hjc2:(s[j]'hjlt).toNat<256:=(s[j]'hjlt).toNat_lt;obtain⟨d1,d2⟩:=HJ.o (s[j]'hjlt) (by
           have:s.data.toList.drop j=(s.data.toList.drop (k+1+1)).drop (j-(k+1+1)):=(by rw[List.drop_drop];congr 1;omega);exact List.mem_of_mem_drop (i:=j-(k+1+1)) (by rw[←this,HDj.o];exact List.mem_cons_self ..))
          have u95:(((s[j]'hjlt).toNat:Int)==95)=false:=(by rw[bf];omega);by_cases he1:e<10000
          ·have H2:Hd (PF.eloop (s.data.toList.drop (j+1)) (e*10+((s[j]'hjlt).toNat-48))=E0):=hd (by rw[←HEL.o,HDj.o];rw[PF.eloop_cons,if_pos he1])
           clear HEL HDj;go_wp2
           go_round
           case rel=>exact⟨j+1,_,by omega,by omega,by omega,by go_num,rfl,by go_num,H2⟩
           case measure=>simp[intOf];omega
          ·have H2:Hd (PF.eloop (s.data.toList.drop (j+1)) e=E0):=hd (by rw[←HEL.o,HDj.o];rw[PF.eloop_cons,if_neg he1])
           clear HEL HDj;go_wp2
           go_round
           case rel=>exact⟨j+1,_,by omega,by omega,he,by go_num,rfl,rfl,H2⟩
           case measure=>simp[intOf];omega
         ·obtain rfl:j=s.size:=by omega
          have HEE:Hd (e=E0):=hd (by have:=HEL.o;rw[List.drop_eq_nil_of_le (by have:=HSZ.o;omega)]at this;exact this);clear HEL;by_cases hm0:m=0
          ·subst hm0
           go_wp2;refine bodyPost_ret (v:=.tuple #[.int .u64 0,.int .i64 0,.bool false,.bool tr,.bool false,.int .i64 (s.size:Int),.bool true]) (by simp[results,Tryz.results188,go_sem]) rfl ⟨rfl,rfl⟩
          ·have tm:((m:Int)!=0)=true:=by rw[bne_iff_ne];omega
           have HE:Hd (PF.ansE ⟨m,nd,nm,dp,false,true,tr⟩ (s.data.toList.drop k)=(nd:Int)+(e:Int)*1-nm):=hd (by unfold PF.ansE;rw[if_neg hm0,HX.o,HEE.o];rfl);go_wp2;refine bodyPost_ret (v:=.tuple #[.int .u64 (m:Int),.int .i64 ((nd:Int)+(e:Int)*1-nm),.bool false,.bool tr,.bool false,.int .i64 (s.size:Int),.bool true]) (by simp[results,Tryz.results188,go_sem]) rfl ⟨by rw[HE.o],rfl⟩
       ·go_wp2_with (go_at_call 204;refine(lower_any _ _ hc).mono ?_;rintro e w' ⟨rfl,rfl⟩)
        go_loop [7,9,20] (fun xi xu xe=>∃(j e:Nat),k+1+1≤j∧j≤s.size∧e≤110000∧xi=.int .i64 (j:Int)∧xu=.bool false∧xe=.int .i64 (e:Int)∧Hd (PF.eloop (s.data.toList.drop j) e=E0)) (fun xi xu xe=>s.size-(intOf xi).toNat)
        case atStart=>exact⟨k+1+1,0,Nat.le_refl _,by omega,by decide,by go_num,rfl,rfl,hd HE0.o.symm⟩
        case round=>
         obtain⟨j,e,hjk,hjs,he,rfl,rfl,rfl,HEL⟩:=hrel;by_cases hjlt:j<s.size
         ·have HDj:=hd (data_drop' s j hjlt)
          have hjc2:(s[j]'hjlt).toNat<256:=(s[j]'hjlt).toNat_lt;obtain⟨d1,d2⟩:=HJ.o (s[j]'hjlt) (by
           have:s.data.toList.drop j=(s.data.toList.drop (k+1+1)).drop (j-(k+1+1)):=(by rw[List.drop_drop];congr 1;omega);exact List.mem_of_mem_drop (i:=j-(k+1+1)) (by rw[←this,HDj.o];exact List.mem_cons_self ..))
          have u95:(((s[j]'hjlt).toNat:Int)==95)=false:=(by rw[bf];omega);by_cases he1:e<10000
          ·have H2:Hd (PF.eloop (s.data.toList.drop (j+1)) (e*10+((s[j]'hjlt).toNat-48))=E0):=hd (by rw[←HEL.o,HDj.o];rw[PF.eloop_cons,if_pos he1])
           clear HEL HDj;go_wp2
           go_round
           case rel=>exact⟨j+1,_,by omega,by omega,by omega,by go_num,rfl,by go_num,H2⟩
           case measure=>simp[intOf];omega
          ·have H2:Hd (PF.eloop (s.data.toList.drop (j+1)) e=E0):=hd (by rw[←HEL.o,HDj.o];rw[PF.eloop_cons,if_neg he1])
           clear HEL HDj;go_wp2
           go_round
           case rel=>exact⟨j+1,_,by omega,by omega,he,by go_num,rfl,rfl,H2⟩
           case measure=>simp[intOf];omega
         ·obtain rfl:j=s.size:=by omega
          have HEE:Hd (e=E0):=hd (by have:=HEL.o;rw[List.drop_eq_nil_of_le (by have:=HSZ.o;omega)]at this;exact this);clear HEL;by_cases hm0:m=0
          ·subst hm0
           go_wp2;refine bodyPost_ret (v:=.tuple #[.int .u64 0,.int .i64 0,.bool false,.bool tr,.bool false,.int .i64 (s.size:Int),.bool true]) (by simp[results,Tryz.results188,go_sem]) rfl ⟨rfl,rfl⟩
          ·have tm:((m:Int)!=0)=true:=by rw[bne_iff_ne];omega
           have HE:Hd (PF.ansE ⟨m,nd,nm,dp,true,true,tr⟩ (s.data.toList.drop k)=dp+(e:Int)*1-nm):=hd (by unfold PF.ansE;rw[if_neg hm0,HX.o,HEE.o];rfl);go_wp2;refine bodyPost_ret (v:=.tuple #[.int .u64 (m:Int),.int .i64 (dp+(e:Int)*1-nm),.bool false,.bool tr,.bool false,.int .i64 (s.size:Int),.bool true]) (by simp[results,Tryz.results188,go_sem]) rfl ⟨by rw[HE.o],rfl⟩
      ·have t1:(((s[k+1]'hk1).toNat:Int)==43)=false:=by rw[bf];omega
       by_cases c2:(s[k+1]'hk1).toNat=45
       ·have t2:(((s[k+1]'hk1).toNat:Int)==45)=true:=by rw[c2];rfl
        have hS:PN.sgl (s.data.toList.drop (k+1))=1:=(by rw[HD1.o,PN.sgl_cons,if_pos (.inr c2)]);have HJ:Hd (∀x∈s.data.toList.drop (k+1+1),48≤x.toNat∧x.toNat≤57):=hd (by have:=EX.2.2;rw[hS]at this;simpa[List.drop_drop] using this);have hjl:k+1+1<s.size:=(by have:=EX.2.1;rw[hS,List.length_drop,List.length_drop,←HSZ.o]at this;omega);have hj0:=HJ.o _ (by rw[data_drop' s (k+1+1) hjl];exact List.mem_cons_self ..);have hjc:(s[k+1+1]'hjl).toNat<256:=(s[k+1+1]'hjl).toNat_lt;obtain⟨hj1,hj2⟩:=hj0;obtain⟨E0,hE0⟩:∃E0,E0=PF.eloop (s.data.toList.drop (k+1+1)) 0:=⟨_,rfl⟩
        have HE0:=hd hE0;have HX:Hd (PF.expOf (s.data.toList.drop k)=(E0:Int) * -1):=hd (by rw[HDR.o,hE0];show (PF.eloop ((s.data.toList.drop (k+1)).drop (PN.sgl (s.data.toList.drop (k+1)))) 0:Int)*_=_;rw[hS,List.drop_drop];congr 1;rw[HD1.o];simp[c2]);clear hE0 EX hS;cases sd
        ·go_wp2_with (go_at_call 204;refine(lower_any _ _ hc).mono ?_;rintro e w' ⟨rfl,rfl⟩)
         go_loop [7,9,20] (fun xi xu xe=>∃(j e:Nat),k+1+1≤j∧j≤s.size∧e≤110000∧xi=.int .i64 (j:Int)∧xu=.bool false∧xe=.int .i64 (e:Int)∧Hd (PF.eloop (s.data.toList.drop j) e=E0)) (fun xi xu xe=>s.size-(intOf xi).toNat)
         case atStart=>exact⟨k+1+1,0,Nat.le_refl _,by omega,by decide,by go_num,rfl,rfl,hd HE0.o.symm⟩
         case round=>
          obtain⟨j,e,hjk,hjs,he,rfl,rfl,rfl,HEL⟩:=hrel;by_cases hjlt:j<s.size
          ·have HDj:=hd (data_drop' s j hjlt)
           have hjc2:(s[j]'hjlt).toNat<256:=(s[j]'hjlt).toNat_lt;obtain⟨d1,d2⟩:=HJ.o (s[j]'hjlt) (by
            have:s.data.toList.drop j=(s.data.toList.drop (k+1+1)).drop (j-(k+1+1)):=(by rw[List.drop_drop];congr 1;omega);exact List.mem_of_mem_drop (i:=j-(k+1+1)) (by rw[←this,HDj.o];exact List.mem_cons_self ..))
           have u95:(((s[j]'hjlt).toNat:Int)==95)=false:=(by rw[bf];omega);by_cases he1:e<10000
           ·have H2:Hd (PF.eloop (s.data.toList.drop (j+1)) (e*10+((s[j]'hjlt).toNat-48))=E0):=hd (by rw[←HEL.o,HDj.o];rw[PF.eloop_cons,if_pos he1])
            clear HEL HDj;go_wp2
            go_round
            case rel=>exact⟨j+1,_,by omega,by omega,by omega,by go_num,rfl,by go_num,H2⟩
            case measure=>simp[intOf];omega
           ·have H2:Hd (PF.eloop (s.data.toList.drop (j+1)) e=E0):=hd (by rw[←HEL.o,HDj.o];rw[PF.eloop_cons,if_neg he1])
            clear HEL HDj;go_wp2
            go_round
            case rel=>exact⟨j+1,_,by omega,by omega,he,by go_num,rfl,rfl,H2⟩
            case measure=>simp[intOf];omega
          ·obtain rfl:j=s.size:=by omega
           have HEE:Hd (e=E0):=hd (by have:=HEL.o;rw[List.drop_eq_nil_of_le (by have:=HSZ.o;omega)]at this;exact this);clear HEL;by_cases hm0:m=0
           ·subst hm0
            go_wp2;refine bodyPost_ret (v:=.tuple #[.int .u64 0,.int .i64 0,.bool false,.bool tr,.bool false,.int .i64 (s.size:Int),.bool true]) (by simp[results,Tryz.results188,go_sem]) rfl ⟨rfl,rfl⟩
           ·have tm:((m:Int)!=0)=true:=by rw[bne_iff_ne];omega
            have HE:Hd (PF.ansE ⟨m,nd,nm,dp,false,true,tr⟩ (s.data.toList.drop k)=(nd:Int)+(e:Int) * -1-nm):=hd (by unfold PF.ansE;rw[if_neg hm0,HX.o,HEE.o];rfl);go_wp2;refine bodyPost_ret (v:=.tuple #[.int .u64 (m:Int),.int .i64 ((nd:Int)+(e:Int) * -1-nm),.bool false,.bool tr,.bool false,.int .i64 (s.size:Int),.bool true]) (by simp[results,Tryz.results188,go_sem]) rfl ⟨by rw[HE.o],rfl⟩
        ·go_wp2_with (go_at_call 204;refine(lower_any _ _ hc).mono ?_;rintro e w' ⟨rfl,rfl⟩)
         go_loop [7,9,20] (fun xi xu xe=>∃(j e:Nat),k+1+1≤j∧j≤s.size∧e≤110000∧xi=.int .i64 (j:Int)∧xu=.bool false∧xe=.int .i64 (e:Int)∧Hd (PF.eloop (s.data.toList.drop j) e=E0)) (fun xi xu xe=>s.size-(intOf xi).toNat)
         case atStart=>exact⟨k+1+1,0,Nat.le_refl _,by omega,by decide,by go_num,rfl,rfl,hd HE0.o.symm⟩
         case round=>
          obtain⟨j,e,hjk,hjs,he,rfl,rfl,rfl,HEL⟩:=hrel;by_cases hjlt:j<s.size
          ·have HDj:=hd (data_drop' s j hjlt)
           have hjc2:(s[j]'hjlt).toNat<256:=(s[j]'hjlt).toNat_lt;obtain⟨d1,d2⟩:=HJ.o (s[j]'hjlt) (by
            have:s.data.toList.drop j=(s.data.toList.drop (k+1+1)).drop (j-(k+1+1)):=(by rw[List.drop_drop];congr 1;omega);exact List.mem_of_mem_drop (i:=j-(k+1+1)) (by rw[←this,HDj.o];exact List.mem_cons_self ..))
           have u95:(((s[j]'hjlt).toNat:Int)==95)=false:=(by rw[bf];omega);by_cases he1:e<10000
           ·have H2:Hd (PF.eloop (s.data.toList.drop (j+1)) (e*10+((s[j]'hjlt).toNat-48))=E0):=hd (by rw[←HEL.o,HDj.o];rw[PF.eloop_cons,if_pos he1])
            clear HEL HDj;go_wp2
            go_round
            case rel=>exact⟨j+1,_,by omega,by omega,by omega,by go_num,rfl,by go_num,H2⟩
            case measure=>simp[intOf];omega
           ·have H2:Hd (PF.eloop (s.data.toList.drop (j+1)) e=E0):=hd (by rw[←HEL.o,HDj.o];rw[PF.eloop_cons,if_neg he1])
            clear HEL HDj;go_wp2
            go_round
            case rel=>exact⟨j+1,_,by omega,by omega,he,by go_num,rfl,rfl,H2⟩
            case measure=>simp[intOf];omega
          ·obtain rfl:j=s.size:=by omega
           have HEE:Hd (e=E0):=hd (by have:=HEL.o;rw[List.drop_eq_nil_of_le (by have:=HSZ.o;omega)]at this;exact this);clear HEL;by_cases hm0:m=0
           ·subst hm0
            go_wp2;refine bodyPost_ret (v:=.tuple #[.int .u64 0,.int .i64 0,.bool false,.bool tr,.bool false,.int .i64 (s.size:Int),.bool true]) (by simp[results,Tryz.results188,go_sem]) rfl ⟨rfl,rfl⟩
           ·have tm:((m:Int)!=0)=true:=by rw[bne_iff_ne];omega
            have HE:Hd (PF.ansE ⟨m,nd,nm,dp,true,true,tr⟩ (s.data.toList.drop k)=dp+(e:Int) * -1-nm):=hd (by unfold PF.ansE;rw[if_neg hm0,HX.o,HEE.o];rfl);go_wp2;refine bodyPost_ret (v:=.tuple #[.int .u64 (m:Int),.int .i64 (dp+(e:Int) * -1-nm),.bool false,.bool tr,.bool false,.int .i64 (s.size:Int),.bool true]) (by simp[results,Tryz.results188,go_sem]) rfl ⟨by rw[HE.o],rfl⟩
       ·have t2:(((s[k+1]'hk1).toNat:Int)==45)=false:=by rw[bf];omega
        have hS:PN.sgl (s.data.toList.drop (k+1))=0:=(by rw[HD1.o,PN.sgl_cons,if_neg (by omega)]);have HJ:Hd (∀x∈s.data.toList.drop (k+1),48≤x.toNat∧x.toNat≤57):=hd (by have:=EX.2.2;rw[hS]at this;simpa[List.drop_drop] using this);have hjl:k+1<s.size:=(by have:=EX.2.1;rw[hS,List.length_drop,List.length_drop,←HSZ.o]at this;omega);have hj0:=HJ.o _ (by rw[data_drop' s (k+1) hjl];exact List.mem_cons_self ..);have hjc:(s[k+1]'hjl).toNat<256:=(s[k+1]'hjl).toNat_lt;obtain⟨hj1,hj2⟩:=hj0;obtain⟨E0,hE0⟩:∃E0,E0=PF.eloop (s.data.toList.drop (k+1)) 0:=⟨_,rfl⟩
        have HE0:=hd hE0;have HX:Hd (PF.expOf (s.data.toList.drop k)=(E0:Int)*1):=hd (by rw[HDR.o,hE0];show (PF.eloop ((s.data.toList.drop (k+1)).drop (PN.sgl (s.data.toList.drop (k+1)))) 0:Int)*_=_;rw[hS,List.drop_drop];congr 1;rw[HD1.o];simp[c2]);clear hE0 EX hS;cases sd
        ·go_wp2_with (go_at_call 204;refine(lower_any _ _ hc).mono ?_;rintro e w' ⟨rfl,rfl⟩)
         go_loop [7,9,20] (fun xi xu xe=>∃(j e:Nat),k+1≤j∧j≤s.size∧e≤110000∧xi=.int .i64 (j:Int)∧xu=.bool false∧xe=.int .i64 (e:Int)∧Hd (PF.eloop (s.data.toList.drop j) e=E0)) (fun xi xu xe=>s.size-(intOf xi).toNat)
         case atStart=>exact⟨k+1,0,Nat.le_refl _,by omega,by decide,by go_num,rfl,rfl,hd HE0.o.symm⟩
         case round=>
          obtain⟨j,e,hjk,hjs,he,rfl,rfl,rfl,HEL⟩:=hrel;by_cases hjlt:j<s.size
          ·have HDj:=hd (data_drop' s j hjlt)
           have hjc2:(s[j]'hjlt).toNat<256:=(s[j]'hjlt).toNat_lt;obtain⟨d1,d2⟩:=HJ.o (s[j]'hjlt) (by
            have:s.data.toList.drop j=(s.data.toList.drop (k+1)).drop (j-(k+1)):=(by rw[List.drop_drop];congr 1;omega);exact List.mem_of_mem_drop (i:=j-(k+1)) (by rw[←this,HDj.o];exact List.mem_cons_self ..))
           have u95:(((s[j]'hjlt).toNat:Int)==95)=false:=(by rw[bf];omega);by_cases he1:e<10000
           ·have H2:Hd (PF.eloop (s.data.toList.drop (j+1)) (e*10+((s[j]'hjlt).toNat-48))=E0):=hd (by rw[←HEL.o,HDj.o];rw[PF.eloop_cons,if_pos he1])
            clear HEL HDj;go_wp2
            go_round
            case rel=>exact⟨j+1,_,by omega,by omega,by omega,by go_num,rfl,by go_num,H2⟩
            case measure=>simp[intOf];omega
           ·have H2:Hd (PF.eloop (s.data.toList.drop (j+1)) e=E0):=hd (by rw[←HEL.o,HDj.o];rw[PF.eloop_cons,if_neg he1])
            clear HEL HDj;go_wp2
            go_round
            case rel=>exact⟨j+1,_,by omega,by omega,he,by go_num,rfl,rfl,H2⟩
            case measure=>simp[intOf];omega
          ·obtain rfl:j=s.size:=by omega
           have HEE:Hd (e=E0):=hd (by have:=HEL.o;rw[List.drop_eq_nil_of_le (by have:=HSZ.o;omega)]at this;exact this);clear HEL;by_cases hm0:m=0
           ·subst hm0
            go_wp2;refine bodyPost_ret (v:=.tuple #[.int .u64 0,.int .i64 0,.bool false,.bool tr,.bool false,.int .i64 (s.size:Int),.bool true]) (by simp[results,Tryz.results188,go_sem]) rfl ⟨rfl,rfl⟩
           ·have tm:((m:Int)!=0)=true:=by rw[bne_iff_ne];omega
            have HE:Hd (PF.ansE ⟨m,nd,nm,dp,false,true,tr⟩ (s.data.toList.drop k)=(nd:Int)+(e:Int)*1-nm):=hd (by unfold PF.ansE;rw[if_neg hm0,HX.o,HEE.o];rfl);go_wp2;refine bodyPost_ret (v:=.tuple #[.int .u64 (m:Int),.int .i64 ((nd:Int)+(e:Int)*1-nm),.bool false,.bool tr,.bool false,.int .i64 (s.size:Int),.bool true]) (by simp[results,Tryz.results188,go_sem]) rfl ⟨by rw[HE.o],rfl⟩
        ·go_wp2_with (go_at_call 204;refine(lower_any _ _ hc).mono ?_;rintro e w' ⟨rfl,rfl⟩)
         go_loop [7,9,20] (fun xi xu xe=>∃(j e:Nat),k+1≤j∧j≤s.size∧e≤110000∧xi=.int .i64 (j:Int)∧xu=.bool false∧xe=.int .i64 (e:Int)∧Hd (PF.eloop (s.data.toList.drop j) e=E0)) (fun xi xu xe=>s.size-(intOf xi).toNat)
         case atStart=>exact⟨k+1,0,Nat.le_refl _,by omega,by decide,by go_num,rfl,rfl,hd HE0.o.symm⟩
         case round=>
          obtain⟨j,e,hjk,hjs,he,rfl,rfl,rfl,HEL⟩:=hrel;by_cases hjlt:j<s.size
          ·have HDj:=hd (data_drop' s j hjlt)
           have hjc2:(s[j]'hjlt).toNat<256:=(s[j]'hjlt).toNat_lt;obtain⟨d1,d2⟩:=HJ.o (s[j]'hjlt) (by
            have:s.data.toList.drop j=(s.data.toList.drop (k+1)).drop (j-(k+1)):=(by rw[List.drop_drop];congr 1;omega);exact List.mem_of_mem_drop (i:=j-(k+1)) (by rw[←this,HDj.o];exact List.mem_cons_self ..))
           have u95:(((s[j]'hjlt).toNat:Int)==95)=false:=(by rw[bf];omega);by_cases he1:e<10000
           ·have H2:Hd (PF.eloop (s.data.toList.drop (j+1)) (e*10+((s[j]'hjlt).toNat-48))=E0):=hd (by rw[←HEL.o,HDj.o];rw[PF.eloop_cons,if_pos he1])
            clear HEL HDj;go_wp2
            go_round
            case rel=>exact⟨j+1,_,by omega,by omega,by omega,by go_num,rfl,by go_num,H2⟩
            case measure=>simp[intOf];omega
           ·have H2:Hd (PF.eloop (s.data.toList.drop (j+1)) e=E0):=hd (by rw[←HEL.o,HDj.o];rw[PF.eloop_cons,if_neg he1])
            clear HEL HDj;go_wp2
            go_round
            case rel=>exact⟨j+1,_,by omega,by omega,he,by go_num,rfl,rfl,H2⟩
            case measure=>simp[intOf];omega
          ·obtain rfl:j=s.size:=by omega
           have HEE:Hd (e=E0):=hd (by have:=HEL.o;rw[List.drop_eq_nil_of_le (by have:=HSZ.o;omega)]at this;exact this);clear HEL;by_cases hm0:m=0
           ·subst hm0
            go_wp2;refine bodyPost_ret (v:=.tuple #[.int .u64 0,.int .i64 0,.bool false,.bool tr,.bool false,.int .i64 (s.size:Int),.bool true]) (by simp[results,Tryz.results188,go_sem]) rfl ⟨rfl,rfl⟩
           ·have tm:((m:Int)!=0)=true:=by rw[bne_iff_ne];omega
            have HE:Hd (PF.ansE ⟨m,nd,nm,dp,true,true,tr⟩ (s.data.toList.drop k)=dp+(e:Int)*1-nm):=hd (by unfold PF.ansE;rw[if_neg hm0,HX.o,HEE.o];rfl);go_wp2;refine bodyPost_ret (v:=.tuple #[.int .u64 (m:Int),.int .i64 (dp+(e:Int)*1-nm),.bool false,.bool tr,.bool false,.int .i64 (s.size:Int),.bool true]) (by simp[results,Tryz.results188,go_sem]) rfl ⟨by rw[HE.o],rfl⟩
   ·have h1:=HL.o
    rw[List.drop_eq_nil_of_le (by have:=HSZ.o;omega)]at h1;have h2:st=⟨m,nd,nm,dp,sd,sg,tr⟩:=(congrArg Prod.fst h1).symm;have h3:r=[]:=(congrArg Prod.snd h1).symm;subst h2;have HR:Hd (s.data.toList.drop k=r):=hd (by rw[h3];exact List.drop_eq_nil_of_le (by have:=HSZ.o;omega));have hsg:sg=true:=HD.o.sg;subst hsg;subst h3;have hnd1:nd≤k:=HB.o.nd;have hnm1:nm≤19:=HB.o.nm;have hdp1 : -(k:Int)≤dp:=HB.o.dl;have hdp2:dp≤(k:Int):=HB.o.du;obtain rfl:k=s.size:=by omega
    clear h1 HR HB HL;by_cases hm0:m=0
    ·subst hm0
     cases sd
     all_goals
      go_wp2;refine bodyPost_ret (v:=.tuple #[.int .u64 0,.int .i64 0,.bool false,.bool tr,.bool false,.int .i64 (s.size:Int),.bool true]) (by simp[results,Tryz.results188,go_sem]) rfl ⟨rfl,rfl⟩
    ·have tm:((m:Int)!=0)=true:=by rw[bne_iff_ne];omega
     cases sd
     ·have HE:Hd (PF.ansE ⟨m,nd,nm,dp,false,true,tr⟩ []=(nd:Int)-nm):=hd (by unfold PF.ansE;rw[if_neg hm0];simp[PF.dpOf,PF.expOf])
      go_wp2;refine bodyPost_ret (v:=.tuple #[.int .u64 (m:Int),.int .i64 ((nd:Int)-nm),.bool false,.bool tr,.bool false,.int .i64 (s.size:Int),.bool true]) (by simp[results,Tryz.results188,go_sem]) rfl ⟨by rw[HE.o],rfl⟩
     ·have HE:Hd (PF.ansE ⟨m,nd,nm,dp,true,true,tr⟩ []=dp-nm):=hd (by unfold PF.ansE;rw[if_neg hm0];simp[PF.dpOf,PF.expOf])
      go_wp2;refine bodyPost_ret (v:=.tuple #[.int .u64 (m:Int),.int .i64 (dp-nm),.bool false,.bool tr,.bool false,.int .i64 (s.size:Int),.bool true]) (by simp[results,Tryz.results188,go_sem]) rfl ⟨by rw[HE.o],rfl⟩
end Go.Proofs.YtieknenhfeejiaaGreatDoor
namespace Go.Proofs
open Go.Shelf
shelf_lay LaysM.n280 Nm 280 at Tryz as Tryz.laysM280
namespace YtieknenhfeejiaaGreatDoor
open _root_.Go.Proofs.Tryz
open Go.RowKit
structure Nms (w:World):Prop where
 g:Glb w
 t:Tbl w
 p:Pw10 w
 e:∃te pe,w.cell? ⟨3,0,none⟩=some (.iface te pe)
theorem Nms.below {w w':World}(h:Nms w)(hb:Below w.heap.size w w'):Nms w':=by
 refine⟨h.g.below hb,h.t.below hb,h.p.below hb,?_⟩;obtain⟨te,pe,hc⟩:=h.e;exact⟨te,pe,by rw[hb.cell (p:=⟨_,0,none⟩) (World.block_lt_of_cell? w _ hc)];exact hc⟩
namespace FS
theorem facX:Z 1033≤X 311∧18446744073709551616*Z 1075<X 346:=by decide +kernel
theorem rnd_inf {n d:Nat}(hd:0<d)(h:X 311*d≤n):Rnd n d INF:=by
 refine⟨Nat.le_refl _,.inr (.inl ?_),.inl rfl⟩;have e:hf (INF-1)=18014398509481983*Z 2045:=by
  obtain⟨q,hq⟩:∃q:Nat,q=2045:=⟨_,rfl⟩
  rw[←hq,hf_at (K:=q) (k:=9007199254740991) (by unfold INF;omega) (by decide) (.inr (by decide)) (by omega)]
 have e2:18014398509481984*Z 2045≤Z 1033*Z 1075:=by
  rw[show (18014398509481984:Nat)=Z 54 from rfl,Z_mul,Z_mul];exact Z_mono' (by decide)
 have hz:=Z_pos 2045;have h1:Z 1033*d*Z 1075≤n*Z 1075:=Nat.mul_le_mul_right _ (Nat.le_trans (Nat.mul_le_mul_right _ facX.1) h);have h2:18014398509481984*Z 2045*d≤Z 1033*Z 1075*d:=Nat.mul_le_mul_right _ e2;have h3:hf (INF-1)*d<18014398509481984*Z 2045*d:=by
  rw[e];exact Nat.mul_lt_mul_of_pos_right (Nat.mul_lt_mul_of_pos_right (by decide) hz) hd
 rw[Nat.mul_right_comm]at h1;omega
theorem rnd_nil {n d:Nat}(h:n*Z 1075<d):Rnd n d 0:=by
 refine⟨by decide,.inl rfl,.inr (.inl ?_)⟩;rw[hf_low (by decide)];omega
theorem X_mono {a b:Nat}(h:a≤b):X a≤X b:=Nat.pow_le_pow_right (by decide) h
theorem facF:4503599627370496*X 37*Z 1075<18014398509481983*Z 2045:=by decide +kernel
theorem fin37 {m b:Nat}{p:Int}(h:Rnd (vN m p) (vD p) b)(hm:m<4503599627370496)(hp:p≤37):b<INF:=by
 rcases Nat.lt_or_ge b INF with c|c
 ·exact c
 exfalso;have hb:b=INF:=Nat.le_antisymm h.le c;subst hb;have hI:hf (INF-1)=18014398509481983*Z 2045:=by
  obtain⟨q,hq⟩:∃q:Nat,q=2045:=⟨_,rfl⟩
  rw[←hq,hf_at (K:=q) (k:=9007199254740991) (by unfold INF;omega) (by decide) (.inr (by decide)) (by omega)]
 have h1:=h.lo.resolve_left (by decide);have h2:hf (INF-1)*vD p≤vN m p*Z 1075:=(by omega);have hd:0<vD p:=X_pos _;have h3:hf (INF-1)≤hf (INF-1)*vD p:=Nat.le_mul_of_pos_right _ hd;have h4:vN m p≤4503599627370496*X 37:=Nat.mul_le_mul (by omega) (X_mono (by omega));have h5:vN m p*Z 1075≤4503599627370496*X 37*Z 1075:=Nat.mul_le_mul_right _ h4;have h6:=facF;rw[hI]at h3 h2;omega
theorem big_rnd {m:Nat}{p:Int}(hm:0<m)(hp:310<p):Rnd (vN m p) (vD p) INF:=by
 have e:vD p=1:=(by unfold vD;rw[show (-p).toNat=0 by omega];rfl);rw[e];apply rnd_inf (by decide);unfold vN;rw[Nat.mul_one];exact Nat.le_trans (X_mono (by omega)) (Nat.le_mul_of_pos_left _ hm)
theorem tiny_rnd {m:Nat}{p:Int}(hm:m<18446744073709551616)(hp:p < -345):Rnd (vN m p) (vD p) 0:=by
 apply rnd_nil;have e:vN m p=m:=(by unfold vN;rw[show p.toNat=0 by omega];exact Nat.mul_one m);rw[e];unfold vD;have h1:m*Z 1075≤18446744073709551616*Z 1075:=Nat.mul_le_mul_right _ (by omega);have h2:X 346≤X (-p).toNat:=X_mono (by omega);have:=facX.2;omega
end FS
def PV (m:Nat)(p:Int)(b:Nat):Prop:=(m=0∧b=0)∨(0<m∧FS.Rnd (FS.vN m p) (FS.vD p) b)
theorem er_no {b:Nat}(h:b<FS.INF):erOf b=.nilIface:=by unfold erOf;rw[if_neg (by omega)]
theorem er_inf:erOf FS.INF=.iface 201 (.int .i64 1):=by unfold erOf;rw[if_pos rfl]
theorem first_ok {s:ByteArray}{st:PF.St}{r:List UInt8}(D:PF.Dec s st r):∃h0:0<s.size,(s[0]'h0).toNat≠43∧(s[0]'h0).toNat≠45∧(s[0]'h0).toNat≠105∧(s[0]'h0).toNat≠73∧(s[0]'h0).toNat≠110∧(s[0]'h0).toNat≠78:=by
 have h0:0<s.size:=by
  rcases Nat.eq_zero_or_pos s.size with c|c
  ·exfalso
   have h1:=D.lp;have h2:=D.sg;have:s.data.toList=[]:=List.eq_nil_of_length_eq_zero (by rw[←Lib.size_eq];exact c);rw[this]at h1;have:st=PF.st0:=(congrArg Prod.fst h1).symm;rw[this]at h2;cases h2
  ·exact c
 refine⟨h0,(D.n0 h0).1,(D.n0 h0).2,?_⟩;have hl:s.data.toList=s[0]::s.data.toList.drop 1:=by
  have:=data_drop' s 0 h0;rw[List.drop_zero]at this;exact this
 have key:∀c:Nat,(s[0]'h0).toNat=c→PF.step PF.st0 c=none→False:=fun c hc hs=>by
  have h1:=D.lp;rw[hl,PF.loop_none (by rw[hc];exact hs)]at h1;have h2:=D.sg;have:st=PF.st0:=(congrArg Prod.fst h1).symm;rw[this]at h2;cases h2
 exact⟨fun h=>key _ h rfl,fun h=>key _ h rfl,fun h=>key _ h rfl,fun h=>key _ h rfl⟩
theorem PF.loop_bd:∀(l:List UInt8) (q:PF.St) (k:Nat) (st:PF.St) (r:List UInt8),PF.loop l q=(st,r)→PF.Bd q k→∃k',k'≤k+l.length∧PF.Bd st k'
 |[],q,k,st,r,h,B=>by
  obtain rfl:st=q:=(congrArg Prod.fst h).symm;exact⟨k,by simp,B⟩
 |c::l,q,k,st,r,h,B=>by
  cases hs:PF.step q c.toNat with
  |none=>
   rw[PF.loop_none hs]at h;obtain rfl:st=q:=(congrArg Prod.fst h).symm;exact⟨k,by omega,B⟩
  |some q'=>
   rw[PF.loop_some hs]at h;obtain⟨k',h1,h2⟩:=PF.loop_bd l q' (k+1) st r h (B.step hs);exact⟨k',by rw[List.length_cons];omega,h2⟩
theorem dec_bd {s:ByteArray}{st:PF.St}{r:List UInt8}(D:PF.Dec s st r):∃k,k≤600∧PF.Bd st k:=by
 obtain⟨k,h1,h2⟩:=PF.loop_bd _ _ 0 _ _ D.lp PF.Bd.start;have:=D.sz;rw[←Lib.size_eq]at h1;exact⟨k,by omega,h2⟩
theorem atof_fast (s:ByteArray)(st:PF.St)(r:List UInt8)(w:World)(D:PF.Dec s st r)(htr:st.tr=false)(N:Nms w) :
  Calls prog 183 #[.string s] w fun e w'=>Below w.heap.size w w'∧∃b,PV st.m (PF.ansE st r) b∧e=.returned (.tuple #[.float .f64 b,.int .i64 (s.size:Int),erOf b]):=by
 obtain⟨h0,hc⟩:=first_ok D;obtain⟨kk,_,B⟩:=dec_bd D;have hm64:=B.m64;have HS:=hd (special_no s w h0 hc);have HR:=hd (readDec_any s st r w D);have g1:=N.g.opt;have HB2:=hd (bool2_no w);rw[htr]at HR;generalize PF.ansE st r=p at *;generalize st.m=m at *;have q0:∀w,(callFunc 197 #[.int .u64 0]).run prog w=.ok (.value (.float .f64 0)) w:=frombits_run 0
 have qI:∀w,(callFunc 197 #[.int .u64 9218868437227405312]).run prog w=.ok (.value (.float .f64 9218868437227405312)) w:=frombits_run 9218868437227405312
 have o0:bits .or .u64 0 0=0:=(by decide);have oI:bits .or .u64 0 9218868437227405312=9218868437227405312:=(by decide);have HN:=hd N;clear hc D B N htr;by_cases m0:m=0
 ·subst m0
  have e0:Hd (erOf 0=.nilIface):=hd (er_no (by decide));clear hm64;go_enter func183,ntmps183;go_wp2_with (first|(go_at_call 187;refine HS.o.mono ?_;rintro e w' ⟨rfl,rfl⟩)|(go_at_call 188;refine HR.o.mono ?_;rintro e w' ⟨rfl,rfl⟩)|(go_at_call 196;refine HB2.o.mono ?_;rintro e w' ⟨rfl,rfl⟩))
  refine bodyPost_ret (v:=.tuple #[.float .f64 0,.int .i64 (s.size:Int),.nilIface]) (by simp[results,Tryz.results183,go_sem]) rfl ⟨Below.refl _ _,0,.inl ⟨rfl,rfl⟩,by rw[e0.o]⟩
 ·have t0:((m:Int)==0)=false:=by rw[bf];omega
  by_cases pb:310<p
  ·have HV:Hd (PV m p FS.INF):=hd (.inr ⟨by omega,FS.big_rnd (by omega) pb⟩)
   have e0:Hd (erOf FS.INF=.iface 201 (.int .i64 1)):=hd er_inf;have hI:FS.INF=9218868437227405312:=rfl;clear hm64 m0;go_enter func183,ntmps183;go_wp2_with (first|(go_at_call 187;refine HS.o.mono ?_;rintro e w' ⟨rfl,rfl⟩)|(go_at_call 188;refine HR.o.mono ?_;rintro e w' ⟨rfl,rfl⟩)|(go_at_call 196;refine HB2.o.mono ?_;rintro e w' ⟨rfl,rfl⟩))
   refine bodyPost_ret (v:=.tuple #[.float .f64 9218868437227405312,.int .i64 (s.size:Int),.iface 201 (.int .i64 1)]) (by simp[results,Tryz.results183,go_sem]) rfl ⟨Below.refl _ _,FS.INF,HV.o,by rw[e0.o];rfl⟩
  ·by_cases ps:p < -345
   ·have HV:Hd (PV m p 0):=hd (.inr ⟨by omega,FS.tiny_rnd (by omega) ps⟩)
    have e0:Hd (erOf 0=.nilIface):=hd (er_no (by decide));clear hm64 m0;go_enter func183,ntmps183;go_wp2_with (first|(go_at_call 187;refine HS.o.mono ?_;rintro e w' ⟨rfl,rfl⟩)|(go_at_call 188;refine HR.o.mono ?_;rintro e w' ⟨rfl,rfl⟩)|(go_at_call 196;refine HB2.o.mono ?_;rintro e w' ⟨rfl,rfl⟩))
    refine bodyPost_ret (v:=.tuple #[.float .f64 0,.int .i64 (s.size:Int),.nilIface]) (by simp[results,Tryz.results183,go_sem]) rfl ⟨Below.refl _ _,0,HV.o,by rw[e0.o]⟩
   ·have HX:=hd (exact_any m w HN.o.g HN.o.p p (by omega) (by omega))
    have HP:=hd (parse64_any m p w (by omega) (by omega) (by omega) (by omega) HN.o.t);have hm:0<m:=(by omega);clear hm64 m0 HN;go_enter func183,ntmps183;go_wp2_with (first|(go_at_call 187;refine HS.o.mono ?_;rintro e w' ⟨rfl,rfl⟩)|(go_at_call 188;refine HR.o.mono ?_;rintro e w' ⟨rfl,rfl⟩)|(go_at_call 196;refine HB2.o.mono ?_;rintro e w' ⟨rfl,rfl⟩)|(go_at_call 198;refine HX.o.mono ?_;rintro e w' ⟨rfl,f,ok,rfl,hR⟩;have HRX:=hd hR;clear hR;revert HRX))
    intro HRX;cases ok with
    |true=>
     go_wp2;refine bodyPost_ret (v:=.tuple #[.float .f64 f,.int .i64 (s.size:Int),.nilIface]) (by simp[results,Tryz.results183,go_sem]) rfl ⟨Below.refl _ _,f,.inr ⟨hm,(HRX.o trivial).1⟩,?_⟩;rw[er_no (FS.fin37 (HRX.o trivial).1 (HRX.o trivial).2.1 (HRX.o trivial).2.2)]
    |false=>
     go_wp2_with (go_at_call 199;refine HP.o.mono ?_;rintro e w' ⟨b,hR2,rfl,hB⟩;have HR2:=hd hR2;have HBB:=hd hB;clear hR2 hB)
     refine bodyPost_ret (v:=.tuple #[.float .f64 b,.int .i64 (s.size:Int),erOf b]) (by simp[results,Tryz.results183,go_sem]) rfl ⟨HBB.o,b,.inr ⟨hm,HR2.o⟩,rfl⟩
end YtieknenhfeejiaaGreatDoor
end Go.Proofs
namespace Go.Proofs.YtieknenhfeejiaaGreatDoor
open _root_.Go.Proofs.Tryz
namespace PF
structure LS where
 D:Nat
 b:Nat
 pt:Bool
def ls0:LS:=⟨0,0,false⟩
def mst (Q:LS)(c:Nat):LS:=if c=46 then { Q with pt:=true } else ⟨Q.D*10+(c-48),if Q.pt then Q.b+1 else Q.b,Q.pt⟩
def mf:List UInt8→LS→LS
 |[],Q=>Q
 |c::l,Q=>mf l (mst Q c.toNat)
theorem mf_app:∀(a b:List UInt8) (Q:LS),mf (a++b) Q=mf b (mf a Q)
 |[],b,Q=>rfl
 |c::a,b,Q=>mf_app a b _
structure Inv (q:St)(Q:LS):Prop where
 pt:Q.pt=q.sd
 hi:Q.D<10^q.nd
 lo:0<q.nd→10^(q.nd-1)≤Q.D
 nm:q.nm=min q.nd 19
 m:q.m=Q.D/10^(q.nd-q.nm)
 tr:q.tr=decide (Q.D%10^(q.nd-q.nm)≠0)
 d1:q.sd=true→q.dp=(q.nd:Int)-Q.b
 d0:q.sd=false→Q.b=0∧(q.nd=0→True)
theorem Inv.start:Inv st0 ls0:=⟨rfl,by decide,fun h=>absurd h (by decide),rfl,rfl,rfl,fun h=>absurd h (by decide),fun _=>⟨rfl,fun _=>trivial⟩⟩
theorem Inv.step {q q':St}{Q:LS}{c:Nat}(I:Inv q Q)(h:step q c=some q'):Inv q' (mst Q c)∧(c=46∨(48≤c∧c≤57)):=by
 obtain⟨pt,hi,lo,nm,hm,tr,d1,d0⟩:=I;unfold PF.step at h;unfold mst;split at h
 ·rename_i c46
  rw[if_pos c46];split at h
  ·cases h
  ·rename_i hsd
   obtain rfl:=Option.some.inj h;have hs:q.sd=false:=(by simpa using hsd);exact⟨⟨rfl,hi,lo,nm,hm,tr,fun _=>by show (q.nd:Int)=q.nd-Q.b;rw[(d0 hs).1];simp,fun h=>by cases h⟩,.inl c46⟩
 ·rename_i c46
  rw[if_neg c46];split at h
  ·rename_i hc
   refine⟨?_,.inr hc⟩;split at h
   ·rename_i hz
    obtain rfl:=Option.some.inj h;obtain⟨rfl,hz0⟩:=hz;have hD:Q.D=0:=(by rw[hz0]at hi;simpa using hi);have hD2:Q.D*10+(48-48)=0:=(by rw[hD]);refine⟨pt,?_,?_,nm,?_,?_,?_,?_⟩
    ·show Q.D*10+(48-48)<10^q.nd
     rw[hD2];exact Nat.pow_pos (by decide)
    ·intro h;have:q.nd=0:=hz0;exact absurd h (by show ¬ 0<q.nd;omega)
    ·show q.m=(Q.D*10+(48-48))/10^(q.nd-q.nm)
     rw[hm,hD2,hD]
    ·show q.tr=decide ((Q.D*10+(48-48))%10^(q.nd-q.nm)≠0)
     rw[tr,hD2,hD]
    ·intro hsd
     have:=d1 hsd;show q.dp-1=(q.nd:Int)-(if Q.pt then Q.b+1 else Q.b:Nat)
     have hsd':q.sd=true:=hsd;rw[pt,hsd',if_pos rfl];omega
    ·intro hsd
     have hsd':q.sd=false:=hsd;refine⟨?_,fun _=>trivial⟩;show (if Q.pt then Q.b+1 else Q.b)=0
     rw[pt,hsd',if_neg (by decide)];exact(d0 hsd').1
   ·rename_i hz
    have hd1':q.sd=true→q.dp=((q.nd+1:Nat):Int)-(if Q.pt then Q.b+1 else Q.b:Nat):=fun hsd=>by
     have:=d1 hsd;rw[pt,hsd,if_pos rfl];omega
    have hd0':q.sd=false→(if Q.pt then Q.b+1 else Q.b)=0:=fun hsd=>by
     rw[pt,hsd,if_neg (by decide)];exact(d0 hsd).1
    have hhi:Q.D*10+(c-48)<10^(q.nd+1):=(by rw[Nat.pow_succ];omega);have hlo:10^(q.nd+1-1)≤Q.D*10+(c-48):=by
     rw[Nat.add_sub_cancel];rcases Nat.eq_zero_or_pos q.nd with e|e
     ·rw[e]
      have:c≠48:=fun h=>hz ⟨h,e⟩
      have:1≤c-48:=(by omega);simp;omega
     ·have:=lo e
      have e2:10^q.nd=10^(q.nd-1)*10:=(by rw[←Nat.pow_succ];congr 1;omega);omega
    split at h
    ·rename_i hnm
     obtain rfl:=Option.some.inj h;have e0:q.nd-q.nm=0:=(by omega);have e1:q.nd+1-(q.nm+1)=0:=(by omega);rw[e0,Nat.pow_zero,Nat.div_one]at hm;rw[e0,Nat.pow_zero,Nat.mod_one]at tr;refine⟨pt,hhi,fun _=>hlo,?_,?_,?_,hd1',fun h=>⟨hd0' h,fun _=>trivial⟩⟩
     ·show q.nm+1=min (q.nd+1) 19;omega
     ·show q.m*10+(c-48)=(Q.D*10+(c-48))/10^(q.nd+1-(q.nm+1))
      rw[e1,Nat.pow_zero,Nat.div_one,hm]
     ·show q.tr=decide ((Q.D*10+(c-48))%10^(q.nd+1-(q.nm+1))≠0)
      rw[e1,Nat.pow_zero,Nat.mod_one,tr]
    ·rename_i hnm
     obtain rfl:=Option.some.inj h;obtain⟨j,hj⟩:∃j,q.nd-q.nm=j:=⟨_,rfl⟩
     have e1:q.nd+1-q.nm=j+1:=(by omega);rw[hj]at hm tr;have hp:0<10^j:=Nat.pow_pos (by decide);have c9:c-48<10:=(by omega);have em:(Q.D*10+(c-48))/10^(j+1)=Q.D/10^j:=by
      rw[Nat.pow_succ,Nat.mul_comm (10^j) 10,←Nat.div_div_eq_div_mul,show (Q.D*10+(c-48))/10=Q.D by omega]
     have er:(Q.D*10+(c-48))%10^(j+1)=Q.D%10^j*10+(c-48):=by
      have h1:=Nat.div_add_mod (Q.D*10+(c-48)) (10^(j+1));have h2:=Nat.div_add_mod Q.D (10^j);rw[em]at h1;have e3:10^(j+1)*(Q.D/10^j)=10*(10^j*(Q.D/10^j)):=(by rw[Nat.pow_succ,Nat.mul_comm (10^j) 10,Nat.mul_assoc]);omega
     refine⟨pt,hhi,fun _=>hlo,?_,?_,?_,hd1',fun h=>⟨hd0' h,fun _=>trivial⟩⟩
     ·show q.nm=min (q.nd+1) 19;omega
     ·show q.m=(Q.D*10+(c-48))/10^(q.nd+1-q.nm)
      rw[e1,em,hm]
     ·show (q.tr ||decide (c≠48))=decide ((Q.D*10+(c-48))%10^(q.nd+1-q.nm)≠0)
      rw[e1,er,tr,←Bool.decide_or];apply decide_eq_decide.2;omega
  ·cases h
theorem loop_val:∀(l:List UInt8) (q:St) (Q:LS) (st:St) (r:List UInt8),loop l q=(st,r)→Inv q Q→∃a,l=a++r∧(∀c∈a,c.toNat=46∨(48≤c.toNat∧c.toNat≤57))∧Inv st (mf a Q)
 |[],q,Q,st,r,h,I=>by
  obtain rfl:st=q:=(congrArg Prod.fst h).symm;obtain rfl:r=[]:=(congrArg Prod.snd h).symm;exact⟨[],rfl,⟨fun c hc=>absurd hc List.not_mem_nil,I⟩⟩
 |c::l,q,Q,st,r,h,I=>by
  cases hs:step q c.toNat with
  |none=>
   rw[loop_none hs]at h;obtain rfl:st=q:=(congrArg Prod.fst h).symm;obtain rfl:r=c::l:=(congrArg Prod.snd h).symm;exact⟨[],rfl,⟨fun c hc=>absurd hc List.not_mem_nil,I⟩⟩
  |some q'=>
   rw[loop_some hs]at h;obtain⟨I2,hc⟩:=I.step hs;obtain⟨a,e,h1,h2⟩:=loop_val l q' _ st r h I2;refine⟨c::a,by rw[e];rfl,fun x hx=>?_,h2⟩;rcases List.mem_cons.1 hx with rfl|hx
   ·exact hc
   ·exact h1 x hx
theorem Inv.dp {q:St}{Q:LS}(I:Inv q Q):dpOf q=(q.nd:Int)-Q.b:=by
 unfold dpOf;cases h:q.sd
 ·rw[if_neg (by decide),(I.d0 h).1];simp
 ·rw[if_pos rfl];exact I.d1 h
end PF
def PVal (D:Nat)(q:Int)(b:Nat):Prop:=(D=0∧b=0)∨(0<D∧FS.Rnd (FS.vN D q) (FS.vD q) b)
theorem PVal.ext {D:Nat}{q:Int}{b c:Nat}(h:PVal D q b)(k:PVal D q c):b=c:=by
 rcases h with ⟨h1,h2⟩|⟨h1,h2⟩<;>rcases k with ⟨k1,k2⟩|⟨k1,k2⟩
 ·omega
 ·omega
 ·omega
 ·exact h2.ext (FS.X_pos _) k2
namespace FS
theorem v_shift {m j:Nat}{p q:Int}(h:p=q+j):vN (m*10^j) q*vD p=vN m p*vD q:=by
 unfold vN vD;have e:(10:Nat)^j=X j:=rfl;rw[e];have:X j*X q.toNat * X (-p).toNat=X p.toNat * X (-q).toNat:=by
  rw[X_mul,X_mul,X_mul];exact congrArg X (by omega)
 have e1:m*X j*X q.toNat * X (-p).toNat=m*(X j*X q.toNat * X (-p).toNat):=(by ac_rfl);have e2:m*X p.toNat * X (-q).toNat=m*(X p.toNat * X (-q).toNat):=(by ac_rfl);rw[e1,e2,this]
theorem Rnd.shift {m j b:Nat}{p q:Int}(h:p=q+j)(R:Rnd (vN m p) (vD p) b):Rnd (vN (m*10^j) q) (vD q) b:=
 Rnd.of_eq (X_pos _) (X_pos _) (v_shift h).symm R
end FS
theorem pv_val {st:PF.St}{Q:PF.LS}{r:List UInt8}(I:PF.Inv st Q)(htr:st.tr=false){b:Nat}(h:PV st.m (PF.ansE st r) b):PVal Q.D (PF.expOf r-Q.b) b:=by
 have h1:=I.tr;rw[htr]at h1;have h2:Q.D%10^(st.nd-st.nm)=0:=by
  have:=of_decide_eq_false h1.symm;omega
 have h3:Q.D=st.m*10^(st.nd-st.nm):=by
  have:=Nat.div_add_mod Q.D (10^(st.nd-st.nm));rw[←I.m,h2]at this;rw[Nat.mul_comm];omega
 rcases h with ⟨h4,h5⟩|⟨h4,h5⟩
 ·left
  exact⟨by rw[h3,h4,Nat.zero_mul],h5⟩
 ·right
  rw[h3];have hp:PF.ansE st r=PF.expOf r-Q.b+(st.nd-st.nm:Nat):=by
   unfold PF.ansE;rw[if_neg (by omega),I.dp];have:=I.nm;omega
  exact⟨Nat.mul_pos h4 (Nat.pow_pos (by decide)),h5.shift hp⟩
end Go.Proofs.YtieknenhfeejiaaGreatDoor
namespace Go.Proofs.YtieknenhfeejiaaGreatDoor
open _root_.Go.Proofs.Tryz
namespace PF
open PN
theorem dg_iff {c:Nat}:dg c=true↔48≤c∧c≤57:=by unfold dg;simp
theorem step_digit {st:St}{c:Nat}(h:48≤c∧c≤57):∃st',step st c=some st'∧st'.sd=st.sd∧st'.sg=true:=by
 unfold step;rw[if_neg (by omega),if_pos h];split
 ·exact⟨_,rfl,rfl,rfl⟩
 ·split
  ·exact⟨_,rfl,rfl,rfl⟩
  ·exact⟨_,rfl,rfl,rfl⟩
theorem loop_digits:∀(l:List UInt8) (st:St),∃st',loop l st=loop (l.drop (spn dg l)) st'∧st'.sd=st.sd∧(0<spn dg l→st'.sg=true)∧(st.sg=true→st'.sg=true)
 |[],st=>⟨st,by rw[spn_nil,List.drop_zero],rfl,fun h=>absurd h (by rw[spn_nil];decide),fun h=>h⟩
 |c::l,st=>by
  by_cases h:dg c.toNat=true
  ·obtain⟨s1,h1,h2,h3⟩:=step_digit (st:=st) (dg_iff.1 h)
   obtain⟨s2,k1,k2,k3,k4⟩:=loop_digits l s1;refine⟨s2,?_,k2.trans h2,fun _=>k4 h3,fun _=>k4 h3⟩;rw[loop_some h1,k1,spn_yes h,List.drop_succ_cons]
  ·have h':dg c.toNat=false:=by simpa using h
   refine⟨st,by rw[spn_no h',List.drop_zero],rfl,fun hh=>?_,fun h=>h⟩;rw[spn_no h']at hh;exact absurd hh (by decide)
theorem spn_next (l:List UInt8)(c:UInt8)(r:List UInt8)(h:l.drop (spn dg l)=c::r):dg c.toNat=false:=by
 induction l with
 |nil=>simp at h
 |cons x l ih=>
  by_cases hx:dg x.toNat=true
  ·rw[spn_yes hx,List.drop_succ_cons]at h;exact ih h
  ·have hx':dg x.toNat=false:=by simpa using hx
   rw[spn_no hx',List.drop_zero]at h;injection h with h1 h2
   rw[←h1];exact hx'
theorem loop_stop (l:List UInt8)(st:St)(h:∀c r,l=c::r→dg c.toNat=false∧(c.toNat=46→st.sd=true)):loop l st=(st,l):=by
 cases l with
 |nil=>rfl
 |cons c r=>
  obtain⟨h1,h2⟩:=h c r rfl;apply loop_none;unfold step;have h3:¬ (48≤c.toNat∧c.toNat≤57):=fun hc=>by rw[dg_iff.2 hc]at h1;cases h1
  by_cases c46:c.toNat=46
  ·rw[if_pos c46,if_pos (h2 c46)]
  ·rw[if_neg c46,if_neg h3]
theorem loop_mant (l:List UInt8)(h:mant l≠0):∃st,loop l st0=(st,l.drop (mant l))∧st.sg=true:=by
 unfold mant at h ⊢;split at h
 ·rename_i hp
  rw[if_pos hp];obtain⟨s1,k1,k2,k3,_⟩:=loop_digits l st0;split at h
  ·rename_i hdot
   rw[if_pos hdot];obtain⟨c,r,e,c46⟩:∃c r,l.drop (spn dg l)=c::r∧c.toNat=46:=by
    cases hl:l.drop (spn dg l) with
    |nil=>rw[hl]at hdot;cases hdot
    |cons c r=>rw[hl]at hdot;exact⟨c,r,rfl,of_decide_eq_true hdot⟩
   have hs:step s1 c.toNat=some { s1 with sd:=true,dp:=s1.nd }:=by
    unfold step;rw[if_pos c46,k2];rfl
   obtain⟨s2,m1,m2,m3,m4⟩:=loop_digits r { s1 with sd:=true,dp:=s1.nd };have er:r=l.drop (spn dg l+1):=by
    have:=congrArg (List.drop 1) e;rw[List.drop_drop]at this;simpa using this.symm
   refine⟨s2,?_,m4 (k3 hp)⟩;rw[k1,e,loop_some hs,m1,loop_stop]
   ·rw[er,List.drop_drop]
   ·intro x y hxy
    exact⟨spn_next _ _ _ hxy,fun _=>m2⟩
  ·rename_i hdot
   rw[if_neg hdot];refine⟨s1,?_,k3 hp⟩;rw[k1,loop_stop];intro x y hxy;refine⟨spn_next _ _ _ hxy,fun x46=>?_⟩;rw[hxy]at hdot;exact absurd (decide_eq_true x46) hdot
 ·rename_i hp
  rw[if_neg hp];split at h
  ·rename_i hpt
   rw[if_pos hpt]
   match l,hpt with
   |a::b::r,hpt=>
    obtain⟨a46,hb⟩:=of_decide_eq_true hpt;have hs:step st0 a.toNat=some { st0 with sd:=true,dp:=st0.nd }:=(by unfold step;rw[if_pos a46];rfl);obtain⟨s2,m1,m2,m3,m4⟩:=loop_digits (b::r) { st0 with sd:=true,dp:=st0.nd };refine⟨s2,?_,m3 (by rw[spn_yes hb];omega)⟩;rw[loop_some hs,m1,loop_stop]
    ·rw[List.drop_succ_cons,List.drop_zero,Nat.add_comm 1,List.drop_succ_cons]
    ·intro x y hxy
     exact⟨spn_next _ _ _ hxy,fun _=>m2⟩
  ·exact absurd rfl h
theorem mant_le (l:List UInt8):mant l≤l.length:=by
 unfold mant;have h1:=spn_le dg l;split
 ·split
  ·rename_i h
   have:spn dg l<l.length:=by
    rcases Nat.lt_or_ge (spn dg l) l.length with c|c
    ·exact c
    ·rw[List.drop_eq_nil_of_le c]at h;cases h
   have h2:=spn_le dg (l.drop (spn dg l+1));rw[List.length_drop]at h2;omega
  ·exact h1
 ·split
  ·rename_i h
   match l,h with
   |a::b::r,_=>
    have:=spn_le dg ((a::b::r).drop 1);rw[List.length_drop]at this;simp only[List.length_cons]at *;omega
  ·omega
theorem all_of_spn {l:List UInt8}(h:spn dg l=l.length):∀x∈l,48≤x.toNat∧x.toNat≤57:=by
 induction l with
 |nil=>intro x hx;cases hx
 |cons c l ih=>
  by_cases hc:dg c.toNat=true
  ·rw[spn_yes hc,List.length_cons]at h
   intro x hx;rcases List.mem_cons.1 hx with rfl|hx
   ·exact dg_iff.1 hc
   ·exact ih (by omega) x hx
  ·have hc':dg c.toNat=false:=by simpa using hc
   rw[spn_no hc',List.length_cons]at h;omega
theorem exp_ok {r:List UInt8}(h:exl r=r.length):expOk r∧∀c∈r,(48≤c.toNat∧c.toNat≤57)∨c.toNat=101∨c.toNat=69∨c.toNat=43∨c.toNat=45:=by
 cases r with
 |nil=>exact⟨trivial,fun c hc=>by cases hc⟩
 |cons c r=>
  rw[exl_cons]at h;split at h
  ·rename_i he
   split at h
   ·rename_i hp
    rw[List.length_cons]at h;have hsg:sgl r≤r.length:=by
     cases r with
     |nil=>exact Nat.zero_le _
     |cons d r=>rw[sgl_cons];split<;>simp
    have hl:spn dg (r.drop (sgl r))=(r.drop (sgl r)).length:=(by rw[List.length_drop];omega);have hall:=all_of_spn hl;refine⟨⟨he,by rw[←hl];exact hp,hall⟩,fun x hx=>?_⟩;rcases List.mem_cons.1 hx with rfl|hx
    ·omega
    ·cases r with
     |nil=>cases hx
     |cons d r=>
      rw[sgl_cons]at hall;split at hall
      ·rename_i hd
       rcases List.mem_cons.1 hx with rfl|hx
       ·omega
       ·exact .inl (hall x hx)
      ·exact .inl (hall x hx)
   ·rw[List.length_cons]at h;omega
  ·rw[List.length_cons]at h;omega
end PF
theorem dec_of (s:ByteArray)(hs:s.size≤600)(h:PN.pfx s.data.toList=s.size)(h0:0<s.size)(hh:PN.hexHead s.data.toList=false) :
  ∃st r,PF.Dec s st r∧(∀c∈s.data.toList,c.toNat=46∨(48≤c.toNat∧c.toNat≤57)∨c.toNat=101∨c.toNat=69∨c.toNat=43∨c.toNat=45)∧((s[0]'h0).toNat=46∨(48≤(s[0]'h0).toNat∧(s[0]'h0).toNat≤57)):=by
 have hz:=Lib.size_eq s;unfold PN.pfx at h;rw[if_neg (by rw[hh];decide)]at h;split at h
 ·omega
 ·rename_i hm
  obtain⟨st,h1,h2⟩:=PF.loop_mant _ hm;have hml:=PF.mant_le s.data.toList;obtain⟨h3,h4⟩:=PF.exp_ok (r:=s.data.toList.drop (PN.mant s.data.toList)) (by rw[List.length_drop];omega);obtain⟨a,e,ha,_⟩:=PF.loop_val _ _ _ _ _ h1 PF.Inv.start;have chars:∀c∈s.data.toList,c.toNat=46∨(48≤c.toNat∧c.toNat≤57)∨c.toNat=101∨c.toNat=69∨c.toNat=43∨c.toNat=45:=fun c hc=>by
   rw[e]at hc;rcases List.mem_append.1 hc with hc|hc
   ·have:=ha c hc;omega
   ·have:=h4 c hc;omega
  have first:(s[0]'h0).toNat=46∨(48≤(s[0]'h0).toNat∧(s[0]'h0).toNat≤57):=by
   have hl:=data_drop' s 0 h0;rw[List.drop_zero]at hl;cases a with
   |nil=>
    exfalso;rw[List.nil_append]at e;have:=congrArg List.length e;rw[List.length_drop]at this;omega
   |cons x a=>
    rw[e,List.cons_append]at hl;injection hl with hl1 hl2
    rw[←hl1];exact ha x (List.mem_cons_self ..)
  refine⟨st,_,⟨hs,h1,h2,h3,fun x hx=>?_,fun hh=>?_,fun h1' h48=>?_⟩,chars,first⟩
  ·have:=chars x hx;omega
  ·omega
  ·intro hc
   have h5:(s[1]'h1').toNat<256:=(s[1]'h1').toNat_lt;have:=(PF.low_at h5).2.1.1 hc;have:=chars _ (mem_data h1');omega
end Go.Proofs.YtieknenhfeejiaaGreatDoor
