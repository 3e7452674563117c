/- readFloat and atofHex over a hexadecimal lexeme (internal/strconv/atof.go). a .. -/
import Derived.Test.YtieknenhfeejiaaGreatDoorRfRead
set_option maxRecDepth 100000
set_option maxHeartbeats 4000000
set_option linter.unusedVariables false
set_option linter.unusedSimpArgs false
namespace Go.Proofs.YtieknenhfeejiaaGreatDoor
open _root_.Go.Proofs.Tryz
open Go.RowKit
namespace PF
def hfold:List UInt8→HS→HS
 |[],q=>q
 |c::l,q=>hfold l (hstep q c.toNat)
theorem HInv.fold:∀(l:List UInt8) {q:HS} {N k:Nat},HInv q N k→(∀c∈l,PN.hx c.toNat=true)→HInv (hfold l q) (hval l N) (k+l.length)
 |[],q,N,k,I,h=>I
 |c::l,q,N,k,I,h=>by
  have:=HInv.fold l (I.step (h c (List.mem_cons_self ..))) (fun x hx=>h x (List.mem_cons_of_mem _ hx));rw[show k+(c::l).length=k+1+l.length by rw[List.length_cons];omega];exact this
structure Hex (t:ByteArray)(H:List UInt8):Prop where
 d:t.data.toList.drop 2=H++[112,48]
 z:t.size=H.length+4
 b0:∀h:0<t.size,(t[0]'h).toNat=48
 b1:∀h:1<t.size,(t[1]'h).toNat=120∨(t[1]'h).toNat=88
 n:0<H.length
 m:H.length≤520
 x:∀c∈H,PN.hx c.toNat=true
theorem low_hx_all:((List.range 256).all fun c=>if PN.hx c && decide (57<c) then decide (97≤low c) && decide (low c≤102) && low c==hv c+87 else true)=true:=by decide +kernel
theorem low_hx {c:Nat}(h:PN.hx c=true)(h2:57<c):97≤low c∧low c≤102∧low c=hv c+87:=by
 have hc:c<256:=(by rw[hx_iff]at h;omega);have:=List.all_eq_true.1 low_hx_all c (List.mem_range.2 hc);rw[if_pos (by simp[h,h2])]at this;simpa[Bool.and_eq_true,and_assoc] using this
structure HBd (q:HS)(k:Nat):Prop where
 nm:q.nm≤16
 nd:q.nd≤k
 dl : -(k:Int)≤q.dp
 du:q.dp≤0
 m:q.nm<16→q.m<1152921504606846976
 m2:q.m<18446744073709551616
theorem HInv.bd {q:HS}{N k:Nat}(I:HInv q N k):HBd q k:=by
 have A:=I.arg;refine⟨by have:=I.nm;omega,I.nd,I.dl,I.du,fun h=>?_,A.ml⟩;have h1:=I.nm;have h2:=I.m;rw[show q.nd-q.nm=0 by omega,Nat.pow_zero,Nat.div_one]at h2;rw[h2];exact Nat.lt_of_lt_of_le I.hi (by rw[show (1152921504606846976:Nat)=16^15 by decide];exact Nat.pow_le_pow_right (by decide) (by omega))
end PF
theorem readHex_any (t:ByteArray)(H:List UInt8)(w:World)(D:PF.Hex t H) :
  Calls prog 188 #[.string t] w fun e w'=>e=.returned (.tuple #[.int .u64 ((PF.hfold H PF.hs0).m:Int),.int .i64 (if (PF.hfold H PF.hs0).m=0 then 0 else((PF.hfold H PF.hs0).nd:Int)*4-((PF.hfold H PF.hs0).nm:Int)*4),.bool false,.bool (PF.hfold H PF.hs0).tr,.bool true,.int .i64 (t.size:Int),.bool true])∧w=w':=by
 have HD:=hd D;have HSZ:=hd (Lib.size_eq t);have hs:=D.z;have hm:=D.m;have h0:0<t.size:=(by omega);have h1:1<t.size:=(by omega);have h2:2<t.size:=(by have:=D.n;omega);have e0:((t[0]'h0).toNat:Int)=48:=(by have:=D.b0 h0;omega);have t43:(((t[0]'h0).toNat:Int)==43)=false:=(by rw[e0];rfl);have t45:(((t[0]'h0).toNat:Int)==45)=false:=(by rw[e0];rfl);have t48:(((t[0]'h0).toNat:Int)==48)=true:=(by rw[e0];rfl);have hc1:(t[1]'h1).toNat<256:=(t[1]'h1).toNat_lt;have t120:((PF.low (t[1]'h1).toNat:Int)==120)=true:=by
  have:=((PF.low_at hc1).2.1).2 (D.b1 h1);rw[this];rfl
 have hne:¬ t=ByteArray.empty:=fun h=>by subst h;exact absurd h0 (by decide)
 have HAT:Hd (∀k,k<H.length→∃h:k+2<t.size,PN.hx (t[k+2]'h).toNat=true∧H.drop k=t[k+2]::H.drop (k+1)):=hd fun k hk=>by
  have h:k+2<t.size:=(by omega);have a:=data_drop' t (k+2) h;have b:t.data.toList.drop (k+2)=H.drop k++[112,48]:=by
   rw[show k+2=2+k by omega,←List.drop_drop,D.d,List.drop_append_of_le_length (by omega)]
  rw[List.drop_eq_getElem_cons hk]at b;rw[a,List.cons_append]at b;injection b with b1 b2
  refine⟨h,?_,?_⟩
  ·rw[b1];exact D.x _ (List.getElem_mem hk)
  ·rw[List.drop_eq_getElem_cons hk,b1]
 have HEND:Hd (∃(ha:H.length+2<t.size) (hb:H.length+3<t.size),(t[H.length+2]'ha).toNat=112∧(t[H.length+3]'hb).toNat=48):=hd (by
  have ha:H.length+2<t.size:=(by omega);have hb:H.length+3<t.size:=(by omega);have a:=data_drop' t (H.length+2) ha;have b:=data_drop' t (H.length+3) hb;have e:t.data.toList.drop (H.length+2)=[112,48]:=by
   rw[show H.length+2=2+H.length by omega,←List.drop_drop,D.d,List.drop_left]
  rw[a]at e;injection e with e1 e2
  rw[show H.length+2+1=H.length+3 by omega,b]at e2;injection e2 with e3 e4
  exact⟨ha,hb,by rw[e1];rfl,by rw[e3];rfl⟩)
 have HX:=hd D.x;obtain⟨Q,hQ⟩:∃Q,Q=PF.hfold H PF.hs0:=⟨_,rfl⟩
 have HQ:=hd hQ;have HI:=hd (PF.HInv.start.fold H D.x);rw[←hQ]at HI ⊢;have hn0:=D.n;clear D hQ e0;obtain⟨L,hL⟩:∃L,L=H.length:=⟨_,rfl⟩
 rw[←hL]at hs hm HAT HEND hn0;have HLL:=hd hL;clear hL;go_enter func188,ntmps188;go_wp2
 go_step3
 go_upto_region 12 with fail
 go_cut [54] from 36 to 54 (fun v wx=>v=.bool true∧wx=w)
 case first=>
  go_wp2_with (go_at_call 204;refine(lower_any _ _ hc1).mono ?_;rintro e w' ⟨rfl,rfl⟩)
  go_meet;exact⟨rfl,rfl⟩
 case rest=>
  obtain⟨rfl,rfl⟩:=hcut;clear t43 t45 t48 t120;go_wp2
  go_step3
  go_wp2
  go_loop [2,5,7,9,13,14,15,16,17] (fun xm xt xi xu xsd xsg xnd xnm xdp=>∃(k:Nat) (q:PF.HS),k≤L∧xm=.int .u64 (q.m:Int)∧xt=.bool q.tr∧xi=.int .i64 ((k+2:Nat):Int)∧xu=.bool false∧xsd=.bool false∧xsg=.bool q.sg∧xnd=.int .i64 (q.nd:Int)∧xnm=.int .i64 (q.nm:Int)∧xdp=.int .i64 q.dp∧Hd (∃N,PF.HInv q N k)∧Hd (PF.hfold (H.drop k) q=Q)) (fun xm xt xi xu xsd xsg xnd xnm xdp=>t.size-(intOf xi).toNat)
  case atStart=>exact⟨0,PF.hs0,Nat.zero_le _,rfl,rfl,rfl,rfl,rfl,rfl,rfl,rfl,rfl,hd ⟨0,PF.HInv.start⟩,hd (by rw[List.drop_zero];exact HQ.o.symm)⟩
  case round=>
   obtain⟨k,⟨m,nd,nm,dp,sg,tr⟩,hk,rfl,rfl,rfl,rfl,rfl,rfl,rfl,rfl,rfl,HN,HL⟩:=hrel;by_cases hlt:k<L
   ·obtain⟨hk2,hhx,hdr⟩:=HAT.o k hlt
    have hhx2:=hhx;have hc:(t[k+2]'hk2).toNat<256:=(t[k+2]'hk2).toNat_lt;obtain⟨N,hN⟩:=HN.o;have HB:=hN.bd;have hB1:nm≤16:=HB.nm;have hB2:nd≤k:=HB.nd;have hB3 : -(k:Int)≤dp:=HB.dl;have hB4:dp≤0:=HB.du;have hB5:nm<16→m<1152921504606846976:=HB.m;have hvl:=PF.hv_lt hhx;have HN2:=hd (⟨_,hN.step hhx⟩:∃N,PF.HInv (PF.hstep ⟨m,nd,nm,dp,sg,tr⟩ (t[k+2]'hk2).toNat) N (k+1));have HL2:Hd (PF.hfold (H.drop (k+1)) (PF.hstep ⟨m,nd,nm,dp,sg,tr⟩ (t[k+2]'hk2).toNat)=Q):=hd (by rw[←HL.o,hdr];rfl);have ST:=hd (rfl:PF.hstep ⟨m,nd,nm,dp,sg,tr⟩ (t[k+2]'hk2).toNat=PF.hstep ⟨m,nd,nm,dp,sg,tr⟩ (t[k+2]'hk2).toNat)
    have LOW:=fun h2=>hd (PF.low_hx hhx h2)
    have HVD:(t[k+2]'hk2).toNat≤57→PF.hv (t[k+2]'hk2).toNat=(t[k+2]'hk2).toNat-48:=fun h=>by unfold PF.hv;rw[if_pos h]
    rw[PF.hx_iff]at hhx;have t95:(((t[k+2]'hk2).toNat:Int)==95)=false:=(by rw[bf];omega);have t46:(((t[k+2]'hk2).toNat:Int)==46)=false:=(by rw[bf];omega);clear HN HL hN HB hdr hhx2;by_cases c57:(t[k+2]'hk2).toNat≤57
    ·have d1:48≤(t[k+2]'hk2).toNat:=by omega
     have hv1:=HVD c57;rw[hv1]at hvl;clear hhx LOW HVD;by_cases cz:(t[k+2]'hk2).toNat=48∧nd=0
     ·have tz:(((t[k+2]'hk2).toNat:Int)==48)=true:=by rw[cz.1];rfl
      have E:Hd (PF.hstep ⟨m,nd,nm,dp,sg,tr⟩ (t[k+2]'hk2).toNat=⟨m,nd,nm,dp-1,true,tr⟩):=hd (by unfold PF.hstep;rw[if_pos cz]);rw[E.o]at HN2 HL2;obtain⟨_,rfl⟩:=cz;clear E ST hv1 hB5;go_wp2
      go_round
      case rel=>exact⟨k+1,_,by omega,rfl,rfl,by go_num,rfl,rfl,rfl,rfl,rfl,rfl,HN2,HL2⟩
      case measure=>simp[intOf];omega
     ·have tz:((((t[k+2]'hk2).toNat:Int)==48)=true∧((nd:Int)==0)=false)∨(((t[k+2]'hk2).toNat:Int)==48)=false:=by
       by_cases e:(t[k+2]'hk2).toNat=48
       ·left;exact⟨by rw[e];rfl,by rw[bf];omega⟩
       ·right;rw[bf];omega
      by_cases c16:nm<16
      ·have E:Hd (PF.hstep ⟨m,nd,nm,dp,sg,tr⟩ (t[k+2]'hk2).toNat=⟨m*16+((t[k+2]'hk2).toNat-48),nd+1,nm+1,dp,true,tr⟩):=hd (by unfold PF.hstep;rw[if_neg cz,if_pos c16,hv1])
       rw[E.o]at HN2 HL2;have hm16:=hB5 c16;clear E ST hv1 hB5 cz;rcases tz with ⟨tz1,tz2⟩|tz1
       all_goals
        go_wp2
        go_round
        case rel=>exact⟨k+1,_,by omega,by go_num,rfl,by go_num,rfl,rfl,rfl,by go_num,by go_num,rfl,HN2,HL2⟩
        case measure=>simp[intOf];omega
      ·have E:Hd (PF.hstep ⟨m,nd,nm,dp,sg,tr⟩ (t[k+2]'hk2).toNat=⟨m,nd+1,nm,dp,true,tr ||decide ((t[k+2]'hk2).toNat≠48)⟩):=hd (by unfold PF.hstep;rw[if_neg cz,if_neg c16])
       rw[E.o]at HN2 HL2;clear E ST hv1 hB5 cz;rcases tz with ⟨tz1,tz2⟩|tz1
       ·have tzz:(((t[k+2]'hk2).toNat:Int)!=48)=false:=by rw[bne_eq_false_iff_eq];simpa using tz1
        have et:(tr ||decide ((t[k+2]'hk2).toNat≠48))=tr:=by
         have:(t[k+2]'hk2).toNat=48:=(by have:=beq_iff_eq.1 tz1;omega);rw[this];simp
        rw[et]at HN2 HL2;clear et;go_wp2
        go_round
        case rel=>exact⟨k+1,_,by omega,rfl,rfl,by go_num,rfl,rfl,rfl,by go_num,rfl,rfl,HN2,HL2⟩
        case measure=>simp[intOf];omega
       ·have tzz:(((t[k+2]'hk2).toNat:Int)!=48)=true:=by rw[bne_iff_ne];exact bf.1 tz1
        have et:(tr ||decide ((t[k+2]'hk2).toNat≠48))=true:=by
         have:(t[k+2]'hk2).toNat≠48:=fun e=>by have:=bf.1 tz1;omega
         simp[this]
        rw[et]at HN2 HL2;clear et;go_wp2
        go_round
        case rel=>exact⟨k+1,_,by omega,rfl,rfl,by go_num,rfl,rfl,rfl,by go_num,rfl,rfl,HN2,HL2⟩
        case measure=>simp[intOf];omega
    ·have d57:57<(t[k+2]'hk2).toNat:=by omega
     obtain⟨l1,l2,l3⟩:=(LOW d57).o;have hL:=hd (lower_any _ wc hc);have hne48:(t[k+2]'hk2).toNat≠48:=(by omega);have d48:48≤(t[k+2]'hk2).toNat:=(by omega);clear hhx LOW HVD;by_cases c16:nm<16
     ·have E:Hd (PF.hstep ⟨m,nd,nm,dp,sg,tr⟩ (t[k+2]'hk2).toNat=⟨m*16+PF.hv (t[k+2]'hk2).toNat,nd+1,nm+1,dp,true,tr⟩):=hd (by unfold PF.hstep;rw[if_neg (fun h=>hne48 h.1),if_pos c16])
      rw[E.o]at HN2 HL2;have hm16:=hB5 c16;clear E ST hB5 hne48;have l3':PF.hv (t[k+2]'hk2).toNat=PF.low (t[k+2]'hk2).toNat-87:=(by omega);rw[l3']at HN2 HL2;clear l3 l3' hvl;generalize PF.low (t[k+2]'hk2).toNat=z at *;go_wp2_with (go_at_call 204;(with_reducible refine hL.o.mono ?_);rintro e w' ⟨rfl,rfl⟩)
      go_round
      case rel=>exact⟨k+1,_,by omega,by go_num,rfl,by go_num,rfl,rfl,rfl,by go_num,by go_num,rfl,HN2,HL2⟩
      case measure=>simp[intOf];omega
     ·have E:Hd (PF.hstep ⟨m,nd,nm,dp,sg,tr⟩ (t[k+2]'hk2).toNat=⟨m,nd+1,nm,dp,true,true⟩):=hd (by unfold PF.hstep;rw[if_neg (fun h=>hne48 h.1),if_neg c16];simp[hne48])
      rw[E.o]at HN2 HL2;clear E ST hB5 hne48 l3 hvl;generalize PF.low (t[k+2]'hk2).toNat=z at *;go_wp2_with (go_at_call 204;(with_reducible refine hL.o.mono ?_);rintro e w' ⟨rfl,rfl⟩)
      go_round
      case rel=>exact⟨k+1,_,by omega,rfl,rfl,by go_num,rfl,rfl,rfl,by go_num,rfl,rfl,HN2,HL2⟩
      case measure=>simp[intOf];omega
   ·obtain rfl:k=L:=by omega
    have hQ2:Q=⟨m,nd,nm,dp,sg,tr⟩:=by
     have:=HL.o;rw[List.drop_eq_nil_of_le (by have:=HLL.o;omega)]at this;exact this.symm
    obtain⟨N,hN⟩:=HN.o;have hsg:sg=true:=hN.sg hn0;have hB1:nm≤16:=hN.bd.nm;have hB2:nd≤k:=hN.bd.nd;subst hQ2 hsg;obtain⟨ha,hb,p1,p2⟩:=HEND.o;have q1:(((t[k+2]'ha).toNat:Int)==95)=false:=(by rw[p1];rfl);have q2:(((t[k+2]'ha).toNat:Int)==46)=false:=(by rw[p1];rfl);have q3:57<(t[k+2]'ha).toNat:=(by omega);have q3':48≤(t[k+2]'ha).toNat:=(by omega);have hL:Hd (Calls prog 204 #[.int .u8 ((t[k+2]'ha).toNat:Int)] wc fun e w'=>e=.returned (.int .u8 112)∧wc=w'):=hd (by rw[p1];exact low112 wc);have r1:(((t[k+3]'hb).toNat:Int)==43)=false:=by rw[p2];rfl
    have r2:(((t[k+3]'hb).toNat:Int)==45)=false:=(by rw[p2];rfl);have r3:(((t[k+3]'hb).toNat:Int)==95)=false:=(by rw[p2];rfl);have r4:48≤(t[k+3]'hb).toNat:=(by omega);have r5:(t[k+3]'hb).toNat≤57:=(by omega);have P2:=hd p2;have hb':k+2+1<t.size:=hb;have r1':(((t[k+2+1]'hb').toNat:Int)==43)=false:=r1;have r2':(((t[k+2+1]'hb').toNat:Int)==45)=false:=r2;have r4':48≤(t[k+2+1]'hb').toNat:=r4;have r5':(t[k+2+1]'hb').toNat≤57:=r5;clear HL HN hN HAT HEND HI HX HQ p1 p2;go_wp2_with (go_at_call 204;(with_reducible refine hL.o.mono ?_);rintro e w' ⟨rfl,rfl⟩)
    go_loop [7,9,20] (fun xi xu xe=>xu=.bool false∧xe=.int .i64 0∧(xi=.int .i64 ((k+3:Nat):Int)∨xi=.int .i64 ((k+4:Nat):Int))) (fun xi xu xe=>t.size+10-(intOf xi).toNat)
    case atStart=>exact⟨rfl,rfl,.inl (by go_num)⟩
    case round=>
     obtain⟨rfl,rfl,rfl|rfl⟩:=hrel
     ·have e48:((t[k+3]'hb).toNat:Int)-48=0:=by have:=P2.o;omega
      go_wp2
      go_round
      case rel=>exact⟨rfl,by go_num,.inr (by go_num)⟩
      case measure=>simp[intOf];omega
     ·by_cases hm0:m=0
      ·subst hm0
       go_wp2;refine bodyPost_ret (v:=.tuple #[.int .u64 0,.int .i64 0,.bool false,.bool tr,.bool true,.int .i64 ((k:Int)+4),.bool true]) (by simp[results,Tryz.results188,go_sem]) rfl ⟨rfl,rfl⟩
      ·have tm:((m:Int)!=0)=true:=by rw[bne_iff_ne];omega
       go_wp2;refine bodyPost_ret (v:=.tuple #[.int .u64 (m:Int),.int .i64 ((nd:Int)*4-(nm:Int)*4),.bool false,.bool tr,.bool true,.int .i64 ((k:Int)+4),.bool true]) (by simp[results,Tryz.results188,go_sem]) rfl ⟨by first|rfl|(rw[if_neg hm0];rfl)|simp[hm0],rfl⟩
theorem i64_and11_all:((List.range 2048).all fun x=>bits .and .i64 (x:Int) 2047==(x:Int))=true:=by decide +kernel
theorem i64_and11 {x:Nat}(h:x<2048):bits .and .i64 (x:Int) 2047=(x:Int):=by
 have:=List.all_eq_true.1 i64_and11_all x (List.mem_range.2 h);exact beq_iff_eq.1 this
theorem hex_bits {K k b:Nat}(hK:1022≤K)(h1:4503599627370496≤k)(h2:k≤9007199254740992)(hb:b=min (K*4503599627370496+k) FS.INF) :
  (K≤2045∧k<9007199254740992→b=(K+1)*4503599627370496+(k-4503599627370496)∧b<FS.INF)∧(K≤2044∧k=9007199254740992→b=(K+2)*4503599627370496∧b<FS.INF)∧(2046≤K∨(2045≤K∧k=9007199254740992)→b=FS.INF):=by
 have hI:FS.INF=9218868437227405312:=rfl;refine⟨fun ⟨a1,a2⟩=>?_,fun ⟨a1,a2⟩=>?_,fun h=>?_⟩
 ·omega
 ·omega
 ·omega
theorem hexf_any (s:ByteArray)(N m j:Nat)(tr:Bool)(w:World)(A:PF.HArg N m j tr)(hj:j≤600)(G:Glb w)(E:Int)(hE:E=4*(j:Int)) :
  Calls prog 189 #[.string s,.pointer (some ⟨6,0,none⟩),.int .u64 (m:Int),.int .i64 E,.bool false,.bool tr] w fun e w'=>(∃b,((N=0∧b=0)∨(0<N∧FS.Rnd N 1 b))∧e=.returned (.tuple #[.float .f64 b,erOf b]))∧∃n,w'=w.drewN n:=by
 have g2:=G.mb;have g3:=G.xb;have g4:=G.bs;have qf:∀(x:Nat) W,(callFunc 197 #[.int .u64 x]).run prog W=.ok (.value (.float .f64 x)) W:=fun x W=>frombits_run x W
 have pe:=ptr_ne G;have e0:Hd (erOf 0=.nilIface):=hd (er_no (by decide));have eI:Hd (erOf FS.INF=.iface 201 (.int .i64 1)):=hd er_inf;have eN:Hd (∀b,b<FS.INF→erOf b=.nilIface):=hd fun b h=>er_no h
 clear G;by_cases m0:m=0
 ·have hN:N=0:=A.zl m0
  have htr:tr=false:=by
   obtain⟨r,h1,h2,h3⟩:=A.r;have:r=0:=(by omega);rw[h3,this];rfl
  subst m0 hN htr;have f0:bits .and .u64 0 3=0:=(by decide);have f1:bits .and .u64 0 1=0:=(by decide);have f2:bits .or .u64 0 0=0:=(by decide);have f3:bits .and .u64 0 4503599627370495=0:=(by decide);have f4:bits .and .i64 0 2047=0:=(by decide);have q0:∀W,(callFunc 197 #[.int .u64 0]).run prog W=.ok (.value (.float .f64 0)) W:=fun W=>frombits_run 0 W
  have hw:IntKind.i64.wrap (E+52)=E+52:=(by rw[IntKind.wrap_i64];omega);have hw2:IntKind.i64.wrap (E+52+2)=E+52+2:=(by rw[IntKind.wrap_i64];omega);clear qf A hE;go_enter func189,ntmps189;go_wp2
  go_quiet (fail)
  go_wp2
  go_loop [2,3] (fun xm xe=>xm=.int .u64 0∧xe=.int .i64 (E+52)) (fun xm xe=>0)
  case atStart=>exact⟨rfl,rfl⟩
  case round=>
   obtain⟨rfl,rfl⟩:=hrel;go_wp2
   go_loop [2,3] (fun xm xe=>xm=.int .u64 0∧xe=.int .i64 (E+52)) (fun xm xe=>0)
   case atStart=>exact⟨rfl,rfl⟩
   case round=>
    obtain⟨rfl,rfl⟩:=hrel;go_wp2
    go_loop [2,3] (fun xm xe=>xm=.int .u64 0∧xe=.int .i64 (E+52)) (fun xm xe=>0)
    case atStart=>exact⟨rfl,rfl⟩
    case round=>
     obtain⟨rfl,rfl⟩:=hrel;go_wp2
     go_quiet (fail)
     go_wp2;refine bodyPost_ret (v:=.tuple #[.float .f64 0,.nilIface]) (by simp[results,Tryz.results189,go_sem]) rfl ⟨⟨0,.inl ⟨by first|rfl|trivial,by first|rfl|trivial⟩,by rw[e0.o]⟩,_,rfl⟩
 ·have hml:=A.ml
  have hN0:0<N:=by
   obtain⟨r,h1,_⟩:=A.r;have:0<m*16^j:=Nat.mul_pos (by omega) (Nat.pow_pos (by decide));omega
  have HN0:=hd hN0;have HA:=hd A;have HQ:Hd (∀s,(s=0∨j=0)→s≤1000→FS.Q4 (if tr then(m*2^s) |||1 else m*2^s) (N*FS.Z 1074) (1*FS.Z (1076+4*j-s))):=hd fun s h1 h2=>FS.hexq_of A h1 h2
  have HHR:Hd (∀u K k,FS.Q4 u (N*FS.Z 1074) (1*FS.Z K)→18014398509481984≤u→u<36028797018963968→k=(u+1+u/4%2)/4→FS.Rnd N 1 (min (K*4503599627370496+k) FS.INF)):=hd fun u K k a b c d=>FS.hex_rnd a b c d
  subst hE;clear A;go_enter func189,ntmps189;go_wp2
  go_quiet (fail)
  go_wp2
  go_loop [2,3] (fun xm xe=>∃(u s:Nat),xm=.int .u64 (u:Int)∧xe=.int .i64 (4*(j:Int)+52-(s:Int))∧s≤54∧Hd (u=m*2^s∧0<u∧u<18446744073709551616∧(s=0∨(j=0∧u<36028797018963968)))) (fun xm xe=>(intOf xe+100).toNat)
  case atStart=>exact⟨m,0,rfl,by go_num,by decide,hd ⟨by omega,by omega,hml,.inl rfl⟩⟩
  case round=>
   obtain⟨u,s1,rfl,rfl,hs1,HU⟩:=hrel;have t0:((u:Int)!=0)=true:=(by rw[bne_iff_ne];have:=HU.o.2.1;omega);by_cases hlt:u<18014398509481984
   ·have t1:((u:Int)/18014398509481984==0)=true:=by rw[beq_iff_eq];omega
    have hj0:j=0:=by
     rcases HA.o.jl with h|h
     ·exact h
     ·exfalso
      have h1:=HU.o.1;have:m≤m*2^s1:=Nat.le_mul_of_pos_right _ (Nat.two_pow_pos _);omega
    have hs2:s1+1≤54:=by
     have h1:=HU.o.1;rcases Nat.lt_or_ge s1 54 with h|h
     ·exact h
     ·exfalso
      have:2^54≤2^s1:=Nat.pow_le_pow_right (by decide) h;have:2^s1≤m*2^s1:=Nat.le_mul_of_pos_left _ (by omega);omega
    have HU2:Hd (u*2=m*2^(s1+1)∧0<u*2∧u*2<18446744073709551616∧(s1+1=0∨(j=0∧u*2<36028797018963968))):=hd ⟨by rw[HU.o.1,Nat.pow_succ,Nat.mul_assoc],by have:=HU.o.2.1;omega,by omega,.inr ⟨hj0,by omega⟩⟩;have w1:IntKind.u64.wrap ((u:Int)*2)=(u:Int)*2:=(by rw[IntKind.wrap_u64];omega);clear HU hlt;go_wp2
    go_round
    case rel=>exact⟨u*2,s1+1,by go_num,by go_num,hs2,HU2⟩
    case measure=>simp[intOf];omega
   ·have t1:((u:Int)/18014398509481984==0)=false:=by rw[bf];omega
    obtain⟨v,hv⟩:∃v,v=if tr then u |||1 else u:=⟨_,rfl⟩
    have hvb:18014398509481984≤v∧v<18446744073709551616:=by
     have h2:=HU.o.2.2.1;cases tr
     ·have:v=u:=hv
      omega
     ·have:v=u |||1:=hv
      rw[FS.or_one]at this;split at this<;>omega
    have HV:Hd (FS.Q4 v (N*FS.Z 1074) (1*FS.Z (1076+4*j-s1))∧18014398509481984≤v∧v<18446744073709551616):=hd (by
     refine⟨?_,hvb⟩;have h:=HQ.o s1 (HU.o.2.2.2.imp id And.left) (by omega);rw[←HU.o.1,←hv]at h;exact h)
    have hvor:tr=true→bits .or .u64 (u:Int) 1=(v:Int):=fun h=>by
     rw[hv,h,if_pos rfl];exact u64_or_nat u 1 HU.o.2.2.1 (by decide)
    have hvno:tr=false→(u:Int)=(v:Int):=fun h=>by rw[hv,h];rfl
    obtain⟨K0,hK0⟩:∃K0,K0=1076+4*j-s1:=⟨_,rfl⟩
    have hk1:1022≤K0:=(by omega);have hk2:K0≤3500:=(by omega);have ek:4*(j:Int)+52-(s1:Int)=(K0:Int)-1024:=(by omega);rw[←hK0]at HV;rw[ek];have T64:Hd (v<2^(64-0)):=hd hvb.2;clear hv HU HQ hvb hlt HA hK0 ek;have STEP:Hd (∀u K,FS.Q4 u (N*FS.Z 1074) (1*FS.Z K)→FS.Q4 (u/2 |||u%2) (N*FS.Z 1074) (1*FS.Z (K+1))):=hd fun u K h=>FS.q4_half h
    cases tr
    case' false=>
     have hx:=hvno rfl;obtain rfl:u=v:=by omega
     clear hx hvor hvno
    case' true=>
     have hx:=hvor rfl;clear hvor hvno
    all_goals
     go_wp2
     go_loop [2,3] (fun xm xe=>∃(u i:Nat),i≤9∧xm=.int .u64 (u:Int)∧xe=.int .i64 ((K0:Int)-1024+i)∧Hd (FS.Q4 u (N*FS.Z 1074) (1*FS.Z (K0+i))∧18014398509481984≤u∧u<2^(64-i))) (fun xm xe=>(intOf xm).toNat)
     case atStart=>exact⟨_,0,by decide,rfl,by go_num,hd ⟨HV.o.1,HV.o.2.1,T64.o⟩⟩
     case round=>
      clear HV T64;obtain⟨u,i,hi,rfl,rfl,HU⟩:=hrel;have hu64:u<18446744073709551616:=Nat.lt_of_lt_of_le HU.o.2.2 (Nat.pow_le_pow_right (by decide) (by omega):2^(64-i)≤2^64);have hu54:=HU.o.2.1;by_cases hlt:u<36028797018963968
      ·have t1:((u:Int)/36028797018963968!=0)=false:=by rw[bne_eq_false_iff_eq];omega
       obtain⟨K,hK⟩:∃K,K=K0+i:=⟨_,rfl⟩
       have eK:(K0:Int)-1024+(i:Int)=(K:Int)-1024:=(by omega);have hKlo:1022≤K:=(by omega);have hKhi:K≤3600:=(by omega);have HQ:=hd HU.o.1;rw[←hK]at HQ;rw[eK];have hu55:u<36028797018963968:=hlt;obtain⟨k,hk⟩:∃k,k=(u+1+u/4%2)/4:=⟨_,rfl⟩
       obtain⟨q,hq⟩:∃q,q=u/4:=⟨_,rfl⟩
       have eq4:(u:Int)/4=(q:Int):=(by omega);obtain⟨r,hr⟩:∃r,r=u%4 |||q%2:=⟨_,rfl⟩
       have o3:bits .and .u64 (u:Int) 3=(u:Int)%4:=by
        have:=u64_and_nat u 3 hu64 (by decide);rw[Nat.and_two_pow_sub_one_eq_mod u 2]at this;rw[show ((3:Nat):Int)=3 from rfl]at this;rw[this];omega
       have o4:bits .and .u64 (q:Int) 1=(q:Int)%2:=by
        have:=u64_and_nat q 1 (by omega) (by decide);rw[Nat.and_one_is_mod]at this;rw[show ((1:Nat):Int)=1 from rfl]at this;rw[this];omega
       have o5:bits .or .u64 ((u:Int)%4) ((q:Int)%2)=(r:Int):=by
        have:=u64_or_nat (u%4) (q%2) (by omega) (by omega);rw[hr,←this];congr 1
       have hr3:r=3↔(u%4=3∨(u%4=2∧q%2=1)):=by
        rw[hr];have:∀a<4,∀b<2,(a |||b=3)↔(a=3∨(a=2∧b=1)):=by decide
        exact this _ (by omega) _ (by omega)
       have HRND:=hd (HHR.o u K k HQ.o hu54 hu55 hk);have hk52:4503599627370496≤k∧k≤9007199254740992:=(by omega);obtain⟨hk52a,hk52b⟩:=hk52;obtain⟨b,hb⟩:∃b,b=min (K*4503599627370496+k) FS.INF:=⟨_,rfl⟩
       obtain⟨HB1,HB2,HB3⟩:=hex_bits hKlo hk52a hk52b hb;have hB1:=hd HB1;have hB2:=hd HB2;have hB3:=hd HB3;rw[←hb]at HRND;clear HU HQ hr hb eK hK hlt HB1 HB2 HB3;have u1:(1<(u:Int))=True:=eq_true (by omega);have y0:((K:Int)-1024 < -1024)=False:=eq_false (by omega);have w1:IntKind.i64.wrap ((K:Int)-1024+2)=(K:Int)-1024+2:=(by rw[IntKind.wrap_i64];omega);have w2:IntKind.i64.wrap ((K:Int)-1024+2+1)=(K:Int)-1024+2+1:=(by rw[IntKind.wrap_i64];omega);have f1:bits .and .u64 4503599627370496 4503599627370495=0:=(by decide);have f2:bits .and .i64 2047 2047=2047:=by decide
       have f3:IntKind.u64.wrap 2047=2047:=(by decide);have f4:IntKind.u64.wrap 9218868437227405312=9218868437227405312:=(by decide);have f5:bits .or .u64 0 9218868437227405312=9218868437227405312:=(by decide);have qI:∀W,(callFunc 197 #[.int .u64 9218868437227405312]).run prog W=.ok (.value (.float .f64 9218868437227405312)) W:=fun W=>frombits_run 9218868437227405312 W
       by_cases h3:r=3
       ·have q3:((r:Int)==3)=true:=by rw[beq_iff_eq];omega
        have hk':k=q+1:=(by have:=hr3.1 h3;omega);by_cases hc:k=9007199254740992
        ·have hq':q=9007199254740991:=by omega
         subst hq';have eq4':(u:Int)/4=9007199254740991:=eq4;have o4':bits .and .u64 9007199254740991 1=1:=(by decide);have o5':bits .or .u64 ((u:Int)%4) 1=(r:Int):=o5;clear hr3 h3 hk hk' hk52a hk52b hu55 hu54 hu64 hq eq4 o4 o5;by_cases hover:2045≤K
         ·have hbI:b=FS.INF:=hB3.o (.inr ⟨hover,hc⟩)
          subst hbI;have y1:(1023<(K:Int)-1024+2+1)=True:=eq_true (by omega);clear hB1 hB2 hB3 qf;go_wp2
          go_loop [2,3] (fun xm xe=>xm=.int .u64 (u:Int)∧xe=.int .i64 ((K:Int)-1024)) (fun xm xe=>0)
          case atStart=>exact⟨rfl,rfl⟩
          case round=>
           obtain⟨rfl,rfl⟩:=hrel;go_wp2
           go_quiet (fail)
           go_wp2;refine bodyPost_ret (v:=.tuple #[.float .f64 9218868437227405312,.iface 201 (.int .i64 1)]) (by simp[results,Tryz.results189,go_sem]) rfl ⟨⟨FS.INF,.inr ⟨HN0.o,HRND.o⟩,?_⟩,_,rfl⟩;rw[eI.o];rfl
         ·have hb2:=hB2.o ⟨by omega,hc⟩
          have hbI:=hd hb2.2;have hb1:=hb2.1;have y1:(1023<(K:Int)-1024+2+1)=False:=eq_false (by omega);have y2:bits .and .i64 ((K:Int)-1024+2+1+1023) 2047=(K:Int)+2:=by
           have:=i64_and11 (x:=K+2) (by omega);rw[show (K:Int)-1024+2+1+1023=((K+2:Nat):Int) by omega,this];omega
          have y3:IntKind.u64.wrap ((K:Int)+2)=(K:Int)+2:=(by rw[IntKind.wrap_u64];omega);have y4:IntKind.u64.wrap (((K:Int)+2)*4503599627370496)=((K:Int)+2)*4503599627370496:=(by rw[IntKind.wrap_u64];omega);have y6:IntKind.i64.wrap ((K:Int)-1024+2+1+1023)=(K:Int)-1024+2+1+1023:=(by rw[IntKind.wrap_i64];omega);have y5:bits .or .u64 (0) (((K:Int)+2)*4503599627370496)=(b:Int):=by
           have:=u64_or_nat 0 ((K+2)*4503599627370496) (by decide) (by omega);rw[Nat.zero_or]at this;rw[show ((0:Nat):Int)=0 from rfl,show (((K+2)*4503599627370496:Nat):Int)=((K:Int)+2)*4503599627370496 by omega]at this;rw[this];omega
          have q0:=qf b;clear hB1 hB2 hB3 hb1 hb2 qf;go_wp2
          go_loop [2,3] (fun xm xe=>xm=.int .u64 (u:Int)∧xe=.int .i64 ((K:Int)-1024)) (fun xm xe=>0)
          case atStart=>exact⟨rfl,rfl⟩
          case round=>
           obtain⟨rfl,rfl⟩:=hrel;go_wp2
           go_quiet (fail)
           go_wp2;refine bodyPost_ret (v:=.tuple #[.float .f64 b,.nilIface]) (by simp[results,Tryz.results189,go_sem]) rfl ⟨⟨b,.inr ⟨HN0.o,HRND.o⟩,?_⟩,_,rfl⟩;rw[eN.o b hbI.o]
        ·have hkl:k<9007199254740992:=by omega
         have c1:((q:Int)+1==9007199254740992)=false:=(by rw[bf];omega);have c2:IntKind.u64.wrap ((q:Int)+1)=(q:Int)+1:=(by rw[IntKind.wrap_u64];omega);have z1:((((q:Int)+1):Int)/4503599627370496==0)=false:=(by rw[bf];omega);have z2:bits .and .u64 (((q:Int)+1):Int) 4503599627370495=((q:Int)+1)-4503599627370496:=by
          have:=u64_and_nat k 4503599627370495 (by omega) (by decide);rw[Nat.and_two_pow_sub_one_eq_mod k 52]at this;rw[show ((4503599627370495:Nat):Int)=4503599627370495 from rfl]at this;rw[show ((q:Int)+1)=(k:Int) by omega,this];omega
         have hqk:=hd hk';by_cases hover:2046≤K
         ·clear hr3 h3 hk hk' hk52a hk52b hu55 hu54 hu64 hq hkl hc
          have hbI:b=FS.INF:=hB3.o (.inl hover);subst hbI;have y1:(1023<(K:Int)-1024+2)=True:=eq_true (by omega);clear hB1 hB2 hB3 qf;go_wp2
          go_loop [2,3] (fun xm xe=>xm=.int .u64 (u:Int)∧xe=.int .i64 ((K:Int)-1024)) (fun xm xe=>0)
          case atStart=>exact⟨rfl,rfl⟩
          case round=>
           obtain⟨rfl,rfl⟩:=hrel;go_wp2
           go_quiet (fail)
           go_wp2;refine bodyPost_ret (v:=.tuple #[.float .f64 9218868437227405312,.iface 201 (.int .i64 1)]) (by simp[results,Tryz.results189,go_sem]) rfl ⟨⟨FS.INF,.inr ⟨HN0.o,HRND.o⟩,?_⟩,_,rfl⟩;rw[eI.o];rfl
         ·have hb2:=hB1.o ⟨by omega,hkl⟩
          have hbI:=hd hb2.2;have hb1:=hb2.1;have y1:(1023<(K:Int)-1024+2)=False:=eq_false (by omega);have y2:bits .and .i64 ((K:Int)-1024+2+1023) 2047=(K:Int)+1:=by
           have:=i64_and11 (x:=K+1) (by omega);rw[show (K:Int)-1024+2+1023=((K+1:Nat):Int) by omega,this];omega
          have y3:IntKind.u64.wrap ((K:Int)+1)=(K:Int)+1:=(by rw[IntKind.wrap_u64];omega);have y4:IntKind.u64.wrap (((K:Int)+1)*4503599627370496)=((K:Int)+1)*4503599627370496:=(by rw[IntKind.wrap_u64];omega);have y6:IntKind.i64.wrap ((K:Int)-1024+2+1023)=(K:Int)-1024+2+1023:=(by rw[IntKind.wrap_i64];omega);have y5:bits .or .u64 (((q:Int)+1)-4503599627370496) (((K:Int)+1)*4503599627370496)=(b:Int):=by
           have:=u64_or_nat (k-4503599627370496) ((K+1)*4503599627370496) (by omega) (by omega);rw[Nat.or_comm,nat_join 52 ((K+1)*4503599627370496) (k-4503599627370496) (Nat.mul_mod_left _ _) (by omega)]at this;rw[show ((k-4503599627370496:Nat):Int)=((q:Int)+1)-4503599627370496 by omega,show (((K+1)*4503599627370496:Nat):Int)=((K:Int)+1)*4503599627370496 by omega]at this;rw[this];omega
          have q0:=qf b;clear hr3 h3 hk hk' hk52a hk52b hu55 hu54 hu64 hq hkl hc;clear hB1 hB2 hB3 hb1 hb2 qf;go_wp2
          go_loop [2,3] (fun xm xe=>xm=.int .u64 (u:Int)∧xe=.int .i64 ((K:Int)-1024)) (fun xm xe=>0)
          case atStart=>exact⟨rfl,rfl⟩
          case round=>
           obtain⟨rfl,rfl⟩:=hrel;go_wp2
           go_quiet (fail)
           go_wp2;refine bodyPost_ret (v:=.tuple #[.float .f64 b,.nilIface]) (by simp[results,Tryz.results189,go_sem]) rfl ⟨⟨b,.inr ⟨HN0.o,HRND.o⟩,?_⟩,_,rfl⟩;rw[eN.o b hbI.o]
       ·have q3:((r:Int)==3)=false:=by rw[bf];omega
        have hk':k=q:=(by have:=fun h=>h3 (hr3.2 h);omega);have hkl:k<9007199254740992:=(by omega);have z1:(((q:Int):Int)/4503599627370496==0)=false:=(by rw[bf];omega);have z2:bits .and .u64 ((q:Int):Int) 4503599627370495=(q:Int)-4503599627370496:=by
         have:=u64_and_nat k 4503599627370495 (by omega) (by decide);rw[Nat.and_two_pow_sub_one_eq_mod k 52]at this;rw[show ((4503599627370495:Nat):Int)=4503599627370495 from rfl]at this;rw[show (q:Int)=(k:Int) by omega,this];omega
        by_cases hover:2046≤K
        ·clear hr3 h3 hk hk' hk52a hk52b hu55 hu54 hu64 hq hkl
         have hbI:b=FS.INF:=hB3.o (.inl hover);subst hbI;have y1:(1023<(K:Int)-1024+2)=True:=eq_true (by omega);clear hB1 hB2 hB3 qf;go_wp2
         go_loop [2,3] (fun xm xe=>xm=.int .u64 (u:Int)∧xe=.int .i64 ((K:Int)-1024)) (fun xm xe=>0)
         case atStart=>exact⟨rfl,rfl⟩
         case round=>
          obtain⟨rfl,rfl⟩:=hrel;go_wp2
          go_quiet (fail)
          go_wp2;refine bodyPost_ret (v:=.tuple #[.float .f64 9218868437227405312,.iface 201 (.int .i64 1)]) (by simp[results,Tryz.results189,go_sem]) rfl ⟨⟨FS.INF,.inr ⟨HN0.o,HRND.o⟩,?_⟩,_,rfl⟩;rw[eI.o];rfl
        ·have hb2:=hB1.o ⟨by omega,hkl⟩
         have hbI:=hd hb2.2;have hb1:=hb2.1;have y1:(1023<(K:Int)-1024+2)=False:=eq_false (by omega);have y2:bits .and .i64 ((K:Int)-1024+2+1023) 2047=(K:Int)+1:=by
          have:=i64_and11 (x:=K+1) (by omega);rw[show (K:Int)-1024+2+1023=((K+1:Nat):Int) by omega,this];omega
         have y3:IntKind.u64.wrap ((K:Int)+1)=(K:Int)+1:=(by rw[IntKind.wrap_u64];omega);have y4:IntKind.u64.wrap (((K:Int)+1)*4503599627370496)=((K:Int)+1)*4503599627370496:=(by rw[IntKind.wrap_u64];omega);have y6:IntKind.i64.wrap ((K:Int)-1024+2+1023)=(K:Int)-1024+2+1023:=(by rw[IntKind.wrap_i64];omega);have y5:bits .or .u64 ((q:Int)-4503599627370496) (((K:Int)+1)*4503599627370496)=(b:Int):=by
          have:=u64_or_nat (k-4503599627370496) ((K+1)*4503599627370496) (by omega) (by omega);rw[Nat.or_comm,nat_join 52 ((K+1)*4503599627370496) (k-4503599627370496) (Nat.mul_mod_left _ _) (by omega)]at this;rw[show ((k-4503599627370496:Nat):Int)=(q:Int)-4503599627370496 by omega,show (((K+1)*4503599627370496:Nat):Int)=((K:Int)+1)*4503599627370496 by omega]at this;rw[this];omega
         have q0:=qf b;clear hr3 h3 hk hk' hk52a hk52b hu55 hu54 hu64 hq hkl;clear hB1 hB2 hB3 hb1 hb2 qf;go_wp2
         go_loop [2,3] (fun xm xe=>xm=.int .u64 (u:Int)∧xe=.int .i64 ((K:Int)-1024)) (fun xm xe=>0)
         case atStart=>exact⟨rfl,rfl⟩
         case round=>
          obtain⟨rfl,rfl⟩:=hrel;go_wp2
          go_quiet (fail)
          go_wp2;refine bodyPost_ret (v:=.tuple #[.float .f64 b,.nilIface]) (by simp[results,Tryz.results189,go_sem]) rfl ⟨⟨b,.inr ⟨HN0.o,HRND.o⟩,?_⟩,_,rfl⟩;rw[eN.o b hbI.o]
      ·have t1:((u:Int)/36028797018963968!=0)=true:=by rw[bne_iff_ne];omega
       have hi9:i<9:=by
        rcases Nat.lt_or_ge i 9 with h|h
        ·exact h
        ·exfalso
         have h9:i=9:=(by omega);have:=HU.o.2.2;rw[h9]at this;omega
       obtain⟨v,hv⟩:∃v,v=u/2 |||u%2:=⟨_,rfl⟩
       have o1:bits .and .u64 (u:Int) 1=(u:Int)%2:=by
        have:=u64_and_nat u 1 hu64 (by decide);rw[Nat.and_one_is_mod]at this;rw[show ((1:Nat):Int)=1 from rfl]at this;rw[this];omega
       have o2:bits .or .u64 ((u:Int)/2) ((u:Int)%2)=(v:Int):=by
        have:=u64_or_nat (u/2) (u%2) (by omega) (by omega);rw[hv,←this];congr 1
       have hvm:v<u∧18014398509481984≤v:=(by rw[hv,FS.or_low];split<;>omega);obtain⟨hv1,hv2⟩:=hvm;have HU2:Hd (FS.Q4 v (N*FS.Z 1074) (1*FS.Z (K0+(i+1)))∧18014398509481984≤v∧v<2^(64-(i+1))):=hd ⟨by rw[hv];exact STEP.o _ _ HU.o.1,hv2,by
        have h1:=HU.o.2.2;have e:2^(64-i)=2*2^(64-(i+1)):=(by rw[show 64-i=(64-(i+1))+1 by omega,Nat.pow_succ,Nat.mul_comm]);have e2:2^(64-(i+1))=2*2^(64-(i+2)):=(by rw[show 64-(i+1)=(64-(i+2))+1 by omega,Nat.pow_succ,Nat.mul_comm]);rw[hv,FS.or_low];split<;>omega⟩
       clear HU hv hlt hu54 hv2;go_wp2
       go_round
       case rel=>exact⟨v,i+1,by omega,rfl,by go_num,HU2⟩
       case measure=>simp[intOf];omega
theorem nread_rest (s:ByteArray)(w:World)(hs:s.size≤1125899906842624)(hno:512<s.size∨s.size=0∨PN.pfx s.data.toList≠s.size) :
  Calls prog 120 #[.string s] w fun x w'=>Below w.heap.size w w'∧∃v,RdOk s v∧x=.returned v:=by
 by_cases hlong:512<s.size
 ·have HOK:Hd (RdOk s (rdTup 0 1)):=hd (.inl ⟨hlong,rfl⟩)
  have t:((512:Int)<(s.size:Int))=True:=(by apply eq_true;omega);go_enter func120,ntmps120;go_wp2;go_ret2;exact⟨Below.refl _ _,_,HOK.o,rfl⟩
 have hno:=hno.resolve_left hlong;have t:((512:Int)<(s.size:Int))=False:=(by apply eq_false;omega);have HW1:=hd (fun W=>word_any s infW W (by decide));have HW2:=hd (fun W=>word_any s nanW W (by decide));have qI:∀W,(callFunc 128 #[.int .u64 9218868437227405312]).run prog W=.ok (.value (.float .f64 9218868437227405312)) W:=fun W=>mfrom_run 9218868437227405312 W
 have qN:∀W,(callFunc 128 #[.int .u64 9221120237041090561]).run prog W=.ok (.value (.float .f64 9221120237041090561)) W:=fun W=>mfrom_run 9221120237041090561 W
 have hs5:s.size≤512:=(by omega);have hne2:0<s.size→s.toList.isEmpty=false:=fun h0=>by
  rw[ByteArray.toList_eq,List.isEmpty_eq_false_iff];intro h;have h2:s.size=0:=(by rw[Lib.size_eq,h];rfl);omega
 have HNO:=hd hno;have hne:0<s.size→¬ s=ByteArray.empty:=fun h0 h=>by subst h;exact absurd h0 (by decide)
 clear hno;go_enter func120,ntmps120;go_wp2_with fail
 refine(HW1.o _).mono ?_;rintro x w1 ⟨hb1,b1,hw1,rfl⟩;have B1:=hd hb1;have hw1:=hd hw1;clear hb1;cases b1 with
 |true=>
  have HOK:Hd (RdOk s (rdTup 9218868437227405312 0)):=hd (.inr (.inl ⟨hs5,hw1.o.1 rfl,rfl⟩));go_wp2;go_ret2;exact⟨B1.o,_,HOK.o,rfl⟩
 |false=>
  have HN1:Hd (¬ Wd s infW):=hd (fun h=>by have:=hw1.o.2 h;cases this);clear hw1;go_wp2_with fail
  refine(HW2.o _).mono ?_;rintro x w2 ⟨hb2,b2,hw2,rfl⟩;have B2:=hd (bel B1.o hb2);have hw2:=hd hw2;clear hb2;cases b2 with
  |true=>
   have HOK:Hd (RdOk s (rdTup 9221120237041090561 0)):=hd (.inr (.inr (.inl ⟨hs5,HN1.o,hw2.o.1 rfl,rfl⟩)));go_wp2;go_ret2;exact⟨B2.o,_,HOK.o,rfl⟩
  |false=>
   have HN2:Hd (¬ Wd s nanW):=hd (fun h=>by have:=hw2.o.2 h;cases this);have HOK:Hd (RdOk s (rdTup 0 20)):=hd (.inr (.inr (.inr (.inl ⟨hs5,HN1.o,HN2.o,HNO.o,rfl⟩))));clear hw2 qI qN;by_cases h0:s.size=0
   ·have he:s=ByteArray.empty:=by
     apply ByteArray.ext;exact Array.eq_empty_of_size_eq_zero h0
    subst he;have te:ByteArray.empty.toList.isEmpty=true:=(by rw[ByteArray.toList_eq];rfl);clear h0 hne hne2;go_wp2;go_ret2;exact⟨B2.o,_,HOK.o,rfl⟩
   ·have hp:=HNO.o.resolve_left h0
    have hne1:=hne (by omega);have hne3:=hne2 (by omega);have CP:=hd (fun W=>prefix_any s W (by omega));have tp:(((PN.pfx s.data.toList:Nat):Int)!=(s.size:Int))=true:=(by rw[bne_iff_ne];omega);generalize PN.pfx s.data.toList=z at *;clear hp hne hne2 h0;go_wp2_with (go_at_call 117;(with_reducible refine(CP.o _).mono ?_);rintro e w' ⟨rfl,rfl⟩)
    go_ret2;exact⟨B2.o,_,HOK.o,rfl⟩
theorem lex_no_word {s:ByteArray}(h0:0<s.size)(h:(s[0]'h0).toNat=46∨(48≤(s[0]'h0).toNat∧(s[0]'h0).toNat≤57)):¬ Wd s infW∧¬ Wd s nanW:=by
 have h1:=List.all_eq_true.1 low_first (s[0]'h0).toNat (List.mem_range.2 (by omega));rw[if_pos (by omega),Bool.and_eq_true,bne_iff_ne,bne_iff_ne]at h1;exact⟨not_word h0 (by decide) h1.1,not_word h0 (by decide) h1.2⟩
theorem nread_dec (s:ByteArray)(w:World)(N:Nm2 w)(hs:s.size≤512)(h0:0<s.size)(hp:PN.pfx s.data.toList=s.size)(hh:PN.hexHead s.data.toList=false) :
  Calls prog 120 #[.string s] w fun x w'=>Below w.heap.size w w'∧∃v,RdOk s v∧x=.returned v:=by
 obtain⟨a,r,e,hda,hr,hok,chars,first⟩:=dec_parts s hs hp h0 hh;obtain⟨n1,n2⟩:=lex_no_word h0 first;refine(read_all s w N hs h0 hp hh a r e hda hr).mono ?_;rintro x w' ⟨hb,b,hv,rfl⟩;exact⟨hb,_,.inr (.inr (.inr (.inr ⟨hs,n1,n2,h0,hp,b,.inr ⟨hh,a,r,e,hda,hr,hv⟩,rfl⟩))),rfl⟩
theorem atof_hex (t:ByteArray)(H:List UInt8)(w:World)(D:PF.Hex t H)(N:Nms w) :
  Calls prog 183 #[.string t] w fun e w'=>Below w.heap.size w w'∧∃b,PVal (PF.hval H 0) 0 b∧e=.returned (.tuple #[.float .f64 b,.int .i64 (t.size:Int),erOf b]):=by
 have h0:0<t.size:=(by have:=D.z;omega);have e0:=D.b0 h0;have HS:=hd (special_no t w h0 (by omega));have HR:=hd (readHex_any t H w D);have I:=PF.HInv.start.fold H D.x;have hbd:=I.bd;have A:=I.arg;have hnd:(PF.hfold H PF.hs0).nd≤600:=(by have:=hbd.nd;have:=D.m;omega);have hle:(PF.hfold H PF.hs0).nm≤(PF.hfold H PF.hs0).nd:=(by have:=I.nm;omega);have hm0:(PF.hfold H PF.hs0).m=0→(PF.hfold H PF.hs0).nd=0:=fun h=>by
  have hz:=A.zl h;rcases Nat.eq_zero_or_pos (PF.hfold H PF.hs0).nd with e|e
  ·exact e
  ·have:=I.lo e
   have hp:0<16^((PF.hfold H PF.hs0).nd-1):=Nat.pow_pos (by decide);omega
 generalize PF.hfold H PF.hs0=q at *;obtain⟨m,nd,nm,dp,sg,tr⟩:=q
 dsimp only at HR
 have HH:=hd (fun s=>hexf_any s (PF.hval H 0) m (nd-nm) tr w A (by show nd-nm≤600;have:nd≤600:=hnd;omega) N.g (if m=0 then 0 else(nd:Int)*4-(nm:Int)*4) (by
  by_cases h:m=0
  ·have:nd=0:=hm0 h
   rw[if_pos h,this,Nat.zero_sub];rfl
  ·rw[if_neg h]
   have:nm≤nd:=hle;omega))
 have HF:Hd (∀b,((PF.hval H 0=0∧b=0)∨(0<PF.hval H 0∧FS.Rnd (PF.hval H 0) 1 b))→PVal (PF.hval H 0) 0 b):=hd fun b hb=>by
  rcases hb with hb|⟨h1,h2⟩
  ·exact .inl hb
  ·exact pval_hex h1 h2
 generalize (if m=0 then(0:Int) else(nd:Int)*4-(nm:Int)*4)=E at *;clear I A hbd hnd hle hm0 D e0;go_enter func183,ntmps183;go_wp2_with (first|(go_at_call 187;refine HS.o.mono ?_;rintro e w' ⟨rfl,rfl⟩)|(go_at_call 188;refine HR.o.mono ?_;rintro e w' ⟨rfl,rfl⟩)|(go_at_call 189;(with_reducible refine(HH.o _).mono ?_);rintro e w' ⟨⟨b,hb,rfl⟩,n1,rfl⟩;have HB:=hd hb;clear hb))
 refine bodyPost_ret (v:=.tuple #[.float .f64 b,.int .i64 (t.size:Int),erOf b]) (by simp[results,Tryz.results183,go_sem]) rfl ⟨bel_drew (Below.refl _ _) _,b,HF.o b HB.o,rfl⟩
theorem hex_p0 (s:ByteArray)(hs:s.size≤512)(h0:0<s.size)(hp:PN.pfx s.data.toList=s.size)(hh:PN.hexHead s.data.toList=true) :
  PF.Hex (s++⟨#[112,48]⟩) (s.data.toList.drop 2)∧(s[0]'h0).toNat=48∧(∃h:1<s.size,(s[1]'h).toNat=120∨(s[1]'h).toNat=88):=by
 have hsz:=Lib.size_eq s;obtain⟨h2,hx,a,b,t,el,ha,hb⟩:=hex_parts _ hh (by omega);have hd:(s++⟨#[112,48]⟩:ByteArray).data.toList=s.data.toList++[112,48]:=by
  rw[ByteArray.data_append,Array.toList_append]
 have hz:(s++⟨#[112,48]⟩:ByteArray).size=s.size+2:=(by rw[ByteArray.size_append];rfl);have g0:(s[0]'h0).toNat=48:=by
  have x:=data_drop' s 0 h0;rw[el]at x;injection x with x1 x2
  rw[←x1];exact ha
 have g1:(s[1]'(by omega)).toNat=120∨(s[1]'(by omega)).toNat=88:=by
  have x:=data_drop' s 1 (by omega);rw[el]at x;injection x with x1 x2
  rw[←x1];exact hb
 refine⟨⟨?_,?_,fun h=>?_,fun h=>?_,?_,?_,hx⟩,g0,by omega,g1⟩
 ·rw[hd,List.drop_append_of_le_length (by omega)]
 ·rw[hz,List.length_drop];omega
 ·have x:=data_drop' (s++⟨#[112,48]⟩) 0 h
  rw[hd,el]at x;injection x with x1 x2
  rw[←x1];exact ha
 ·have x:=data_drop' (s++⟨#[112,48]⟩) 1 h
  rw[hd,el]at x;injection x with x1 x2
  rw[←x1];exact hb
 ·rw[List.length_drop];omega
 ·rw[List.length_drop];omega
theorem nread_hex (s:ByteArray)(w:World)(N:Nms w)(hs:s.size≤512)(h0:0<s.size)(hp:PN.pfx s.data.toList=s.size)(hh:PN.hexHead s.data.toList=true) :
  Calls prog 120 #[.string s] w fun x w'=>Below w.heap.size w w'∧∃v,RdOk s v∧x=.returned v:=by
 obtain⟨D,g0,h1,g1⟩:=hex_p0 s hs h0 hp hh;obtain⟨n1,n2⟩:=lex_no_word h0 (by omega);have f1:PF.low (s[0]'h0).toNat≠105:=(by rw[g0];decide);have f2:PF.low (s[0]'h0).toNat≠110:=(by rw[g0];decide);have HW1:=hd (fun W=>word_first s ⟨#[105,110,102]⟩ W h0 (by decide) f1);have HW2:=hd (fun W=>word_first s ⟨#[110,97,110]⟩ W h0 (by decide) f2);have HP:=hd (fun W=>prefix_any s W (by omega));have HPX:=hd hp;rw[hp]at HP;have HS:=hd (fun W=>small_any s W (by omega));have hz:(s++⟨#[112,48]⟩:ByteArray).size=s.size+2:=by rw[ByteArray.size_append];rfl
 have HF:=hd (fun W (hb:Below w.heap.size w W)=>parse_of (s++⟨#[112,48]⟩) W (N.below hb) (by omega) (PVal (PF.hval (s.data.toList.drop 2) 0) 0) (hd (atof_hex _ _ W D (N.below hb))));have hne:¬ s=ByteArray.empty:=fun h=>by subst h;exact absurd h0 (by decide)
 have hne2:s.toList.isEmpty=false:=by
  rw[ByteArray.toList_eq,List.isEmpty_eq_false_iff];intro h;have h2:s.size=0:=(by rw[Lib.size_eq,h];rfl);omega
 have x2:bits .or .u8 ((s[1]'h1).toNat:Int) 32=120:=by
  have:=u8_or_nat (s[1]'h1).toNat 32 (s[1]'h1).toNat_lt (by decide);rw[show ((32:Nat):Int)=32 from rfl]at this;rw[this];rcases g1 with h|h<;>rw[h]<;>rfl
 have HNODD:Hd (¬ DD s.data.toList):=hd (fun h=>by
  have:=h _ (mem_data h1);omega)
 have FIN:Hd (∀b,PVal (PF.hval (s.data.toList.drop 2) 0) 0 b→RdOk s (RdAns b)):=hd fun b hb=>.inr (.inr (.inr (.inr ⟨hs,n1,n2,h0,HPX.o,b,.inl ⟨hh,hb⟩,rfl⟩)))
 have HFIN:Hd (∀ {b:Nat},PVal (PF.hval (s.data.toList.drop 2) 0) 0 b→b≤FS.INF):=hd fun {b} h=>h.le
 clear N D g0 g1 n1 n2 f1 f2 hp hh hz;go_enter func120,ntmps120;go_wp2_with (first|(go_at_call 146;(with_reducible refine(HW1.o _).mono ?_);rintro e wa ⟨rfl,hB⟩;have HBa:=hd hB;clear hB)|(go_at_call 146;(with_reducible refine(HW2.o _).mono ?_);rintro e wb ⟨rfl,hB⟩;have HBb:=hd (bel HBa.o hB);clear hB)|(go_at_call 117;(with_reducible refine(HP.o _).mono ?_);rintro e w' ⟨rfl,rfl⟩)|(go_at_call 149;(with_reducible refine(HS.o _).mono ?_);rintro e w1 ⟨hB,f,ok,rfl,hh⟩;have HB:=hd (bel HBb.o hB);have HH:=hd hh;clear hB hh;revert HH))
 intro HH;cases ok
 case true=>exact absurd (HH.o rfl).2.2 HNODD.o
 case false=>
  clear HW1 HW2 HP HS HH;go_wp2_with fail
  refine(HF.o _ HB.o).mono ?_;rintro e w2 ⟨hB2,b,er,hV,rfl⟩;have HB2:=hd (bel HB.o hB2);have HV:=hd hV;clear hB2 hV;have HI:=hd (fun W=>isInf_pos b W (HFIN.o HV.o));have HOK:=hd (FIN.o b HV.o);by_cases c:b=FS.INF
  ·have e1:(b==FS.INF)=true:=beq_iff_eq.2 c
   have HR:Hd (RdAns b=.tuple #[.float .f64 0,.int .i64 21]):=hd (by unfold RdAns;rw[if_pos c]);rw[e1]at HI;clear c e1;go_wp2_with (go_at_call 151;(with_reducible refine(HI.o _).mono ?_);rintro e w' ⟨rfl,rfl⟩)
   go_ret2;exact⟨HB2.o,_,HOK.o,congrArg Ending.returned HR.o.symm⟩
  ·have e1:(b==FS.INF)=false:=bf.2 c
   have HR:Hd (RdAns b=.tuple #[.float .f64 b,.int .i64 0]):=hd (by unfold RdAns;rw[if_neg c]);rw[e1]at HI;clear c e1;go_wp2_with (go_at_call 151;(with_reducible refine(HI.o _).mono ?_);rintro e w' ⟨rfl,rfl⟩)
   go_ret2;exact⟨HB2.o,_,HOK.o,congrArg Ending.returned HR.o.symm⟩
theorem nread_any (s:ByteArray)(w:World)(N:Nm2 w)(hs:s.size≤1125899906842624) :
  Calls prog 120 #[.string s] w fun x w'=>Below w.heap.size w w'∧∃v,RdOk s v∧x=.returned v:=by
 by_cases h:512<s.size∨s.size=0∨PN.pfx s.data.toList≠s.size
 ·exact nread_rest s w hs h
 ·have h1:¬ 512<s.size:=fun hh=>h (.inl hh)
  have h2:¬ s.size=0:=fun hh=>h (.inr (.inl hh))
  have h3:PN.pfx s.data.toList=s.size:=Decidable.byContradiction fun hh=>h (.inr (.inr hh))
  cases hh:PN.hexHead s.data.toList with
  |true=>exact nread_hex s w N.n (by omega) (by omega) h3 hh
  |false=>exact nread_dec s w N (by omega) (by omega) h3 hh
end Go.Proofs.YtieknenhfeejiaaGreatDoor
