/- internal/strconv.rightShift. internal/strconv.prefixIsLessThan, leftShift. (* .. -/
import Derived.Test.YtieknenhfeejiaaGreatDoorDOne
import Derived.Deep.CutBlock
set_option maxRecDepth 100000
set_option maxHeartbeats 4000000
set_option linter.unusedVariables false
set_option linter.unusedSimpArgs false
namespace Go.Proofs.YtieknenhfeejiaaGreatDoor
open _root_.Go.Proofs.Tryz
open Go.RowKit
theorem shr_fact (n k K:Nat)(hK:2^k=K):(n:Int)/2^k=((n/K:Nat):Int):=by
 rw[show ((2:Int)^k)=((K:Nat):Int) by rw[←hK];push_cast;rfl];rfl
theorem and_mask (n k K:Nat)(hK:2^k=K)(hk:k≤60)(hn:n<18446744073709551616):bits .and .u64 (n:Int) ((K-1:Nat):Int)=((n%K:Nat):Int):=by
 have hb:K≤1152921504606846976:=(by rw[←hK];exact Nat.pow_le_pow_right (by decide) hk);rw[u64_and_nat n (K-1) hn (by omega),←hK,Nat.and_two_pow_sub_one_eq_mod]
structure RightA (w w':World)(b:Nat)(f:Nat→Nat)(nd:Nat)(dp:Int)(tr:Bool)(K R i m:Nat)(g:Nat→Nat):Prop where
 r1:1≤R
 i1:1≤i
 rn:R≤nd+100
 lo:DN.pad f nd (R-1)<K
 hi:K≤DN.pad f nd R
 ex:DN.pad f nd (R+i)%(10*K)=0
 ri:nd≤R+i
 dg:∀j,j<min i 800→g j=48+DN.pad f nd (R+j)/K%10
 mn:m≤min i 800
 mz:∀j,m≤j→j<min i 800→g j=48
 ml:m=0∨g (m-1)≠48
 dc:Dc w' b g m (if m=0 then 0 else dp-R+1) (tr ||decide (DN.pad f nd (R+i-1)/K%10^(i-800)≠0))
theorem right_any (w:World)(b:Nat)(f:Nat→Nat)(nd:Nat)(dp:Int)(tr:Bool)(k:Nat)(D:Dc w b f nd dp tr)(hnd:nd≤800)(hnd0:0<nd)(hok:DN.Ok f nd)(hv:0<DN.dvf f nd)(hk1:1≤k)(hk2:k≤60)(hdp : -5000≤dp)(hdp2:dp≤5000) :
  Calls prog 219 #[.pointer (some ⟨b,0,none⟩),.int .u64 (k:Int)] w fun e w'=>e=.returned (.tuple #[])∧Below b w w'∧∃R i m g,RightA w w' b f nd dp tr (2^k) R i m g:=by
 obtain⟨K,hK⟩:∃K,2^k=K:=⟨_,rfl⟩
 have hKb:K≤1152921504606846976:=(by rw[←hK];exact Nat.pow_le_pow_right (by decide) hk2);have hK1:1≤K:=(by rw[←hK];exact Nat.two_pow_pos k);have HD:=hd D;have HOK:=hd hok;have HV:=hd hv;have HKB:=hd (And.intro hKb hK1);have HSH:=hd (fun n=>shr_fact n k K hK);have HK:=hd hK;rw[hK];clear D hok hv hKb hK1 hK;have c800:=HD.o.cnd;go_enter func219,ntmps219
 go_upto_block 0 with fail
 go_cut [4,5,6] from 4 to 48 (fun xr xw xn wx=>∃R:Nat,1≤R∧R≤nd+100∧xr=.int .i64 (R:Int)∧xw=.int .i64 0∧xn=.int .u64 ((DN.pad f nd R:Nat):Int)∧Hd (DN.pad f nd (R-1)<K∧K≤DN.pad f nd R)∧wx=w)
 case first=>
  go_wp2_with fail
  go_loop [4,6] (fun xr xn=>∃r n:Nat,r≤nd∧xr=.int .i64 (r:Int)∧xn=.int .u64 (n:Int)∧Hd (n=DN.pad f nd r)∧Hd (r=0∨DN.pad f nd (r-1)<K)) (fun xr xn=>nd-(intOf xr).toNat)
  case atStart=>exact⟨0,0,Nat.zero_le _,rfl,rfl,hd (by rw[DN.pad_le (Nat.zero_le _)];rfl),hd (.inl rfl)⟩
  case round=>
   obtain⟨r,n,hr,rfl,rfl,HN,HP⟩:=hrel;by_cases hge:K≤n
   ·have hs:(n:Int)/2^k=((n/K:Nat):Int):=HSH.o n
    have hq:(((n/K:Nat):Int)==0)=false:=by
     have h1:=HKB.o.2;have:0<n/K:=Nat.div_pos hge (by omega);rw[bf];omega
    have HR:Hd (1≤r∧DN.pad f nd (r-1)<K∧K≤DN.pad f nd r):=hd (by
     have h1:=HKB.o.2;have h2:=HN.o;rcases HP.o with h|h
     ·subst h
      rw[DN.pad_le (Nat.zero_le _)]at h2;have:n=0:=h2;omega
     ·refine⟨?_,h,by omega⟩
      rcases Nat.eq_zero_or_pos r with e|e
      ·subst e
       rw[DN.pad_le (Nat.zero_le _)]at h2;have:n=0:=h2;omega
      ·exact e)
    have HNV:Hd ((n:Int)=((DN.pad f nd r:Nat):Int)):=hd (by rw[HN.o]);generalize n/K=y at *;clear hge HN HP;go_wp2;go_meet
    case rel=>exact⟨r,HR.o.1,by omega,rfl,rfl,by rw[HNV.o],hd HR.o.2,rfl⟩
   ·have hlt:n<K:=by omega
    have hs:(n:Int)/2^k=0:=by
     rw[HSH.o n,Nat.div_eq_of_lt hlt];rfl
    have hnb:n<1152921504606846976:=(by have:=HKB.o.1;omega);by_cases hrn:r<nd
    ·have hc:=HOK.o r hrn
     obtain⟨hc0,hc1⟩:=hc;have cj:=HD.o.dig r (by omega);have h800:r<800:=(by omega);have w1:IntKind.u64.wrap ((n:Int)*10)=((n*10:Nat):Int):=(by rw[IntKind.wrap_u64];omega);have w2:IntKind.u64.wrap (((n*10:Nat):Int)+(f r:Int))=((n*10+f r:Nat):Int):=(by rw[IntKind.wrap_u64];omega);have w3:IntKind.u64.wrap (((n*10+f r:Nat):Int)-48)=((n*10+(f r-48):Nat):Int):=(by rw[IntKind.wrap_u64];omega);have HN2:Hd (n*10+(f r-48)=DN.pad f nd (r+1)):=hd (by
      rw[DN.pad_succ,←HN.o];unfold DN.dgt;rw[if_pos hrn];omega)
     have HP2:Hd (r+1=0∨DN.pad f nd (r+1-1)<K):=hd (.inr (by rw[Nat.add_sub_cancel,←HN.o];exact hlt));have hrI:(r:Int)<(nd:Int):=(by omega);generalize n*10+(f r-48)=z at *;generalize n*10+f r=y at *;generalize n*10=x at *;clear HN HP hnb hlt hge;go_wp2
     go_round
     case rel=>exact⟨r+1,z,by omega,by go_num,by go_num,HN2,HP2⟩
     case measure=>simp[intOf];omega
    ·obtain rfl:r=nd:=by omega
     have hn0:n≠0:=by
      have h1:=HN.o;rw[DN.pad_le (Nat.le_refl _)]at h1;have:=HV.o;omega
     have hq0:((n:Int)==0)=false:=(by rw[bf];omega);have HL:Hd (n<K):=hd hlt;clear hge hlt hnb;go_wp2_with fail
     go_loop [4,6] (fun xr xn=>∃q m:Nat,r≤q∧q≤r+70∧xr=.int .i64 (q:Int)∧xn=.int .u64 (m:Int)∧Hd (m=DN.pad f r q)∧Hd (m<K∨(r<q∧DN.pad f r (q-1)<K))∧Hd (2^(q-r)≤m)) (fun xr xn=>r+70-(intOf xr).toNat)
     case atStart=>exact⟨r,n,Nat.le_refl _,by omega,rfl,rfl,HN,hd (.inl HL.o),hd (by rw[Nat.sub_self];exact Nat.one_le_iff_ne_zero.2 hn0)⟩
     case round=>
      obtain⟨q,m,hq1,hq2,rfl,rfl,HM,HP2,HG⟩:=hrel;by_cases hge:K≤m
      ·have hs:(m:Int)/2^k=((m/K:Nat):Int):=HSH.o m
       have hqq:(((m/K:Nat):Int)==0)=false:=by
        have h1:=HKB.o.2;have:0<m/K:=Nat.div_pos hge (by omega);rw[bf];omega
       have HR:Hd (1≤q∧DN.pad f r (q-1)<K∧K≤DN.pad f r q):=hd (by
        have h2:=HM.o;rcases HP2.o with h|⟨h,h'⟩
        ·omega
        ·exact⟨by omega,h',by omega⟩)
       have HNV:Hd ((m:Int)=((DN.pad f r q:Nat):Int)):=hd (by rw[HM.o]);generalize m/K=y at *;clear hge HM HP2 HG;go_wp2;go_meet
       case rel=>exact⟨q,HR.o.1,by omega,rfl,rfl,by rw[HNV.o],hd HR.o.2,rfl⟩
      ·have hlt:m<K:=by omega
       have hs:(m:Int)/2^k=0:=by
        rw[HSH.o m,Nat.div_eq_of_lt hlt];rfl
       have hq70:q<r+70:=by
        have h1:=HG.o;have h2:=HKB.o.1;rcases Nat.lt_or_ge q (r+70) with c|c
        ·exact c
        ·exfalso
         have:2^70≤2^(q-r):=Nat.pow_le_pow_right (by decide) (by omega);omega
       have w1:IntKind.u64.wrap ((m:Int)*10)=((m*10:Nat):Int):=(by have:=HKB.o.1;rw[IntKind.wrap_u64];omega);have HM2:Hd (m*10=DN.pad f r (q+1)):=hd (by
        rw[DN.pad_succ,←HM.o];unfold DN.dgt;rw[if_neg (by omega)];omega)
       have HP3:Hd (m*10<K∨(r<q+1∧DN.pad f r (q+1-1)<K)):=hd (.inr ⟨by omega,by rw[Nat.add_sub_cancel,←HM.o];exact hlt⟩);have HG2:Hd (2^(q+1-r)≤m*10):=hd (by
        have h1:=HG.o;rw[show q+1-r=q-r+1 by omega,Nat.pow_succ];omega)
       generalize m*10=x at *;clear HM HP2 HG hge hlt;go_wp2
       go_round
       case rel=>exact⟨q+1,x,by omega,by omega,by go_num,by go_num,HM2,HP3,HG2⟩
       case measure=>simp[intOf];omega
 case rest=>
  obtain⟨R,hR1,hR2,rfl,rfl,rfl,HR,rfl⟩:=hcut;have c801:=HD.o.cdp;have z801:=HD.o.fz 801;have w0:dp-((R:Int)-1)=dp-R+1:=(by omega);have hmask:IntKind.u64.wrap ((2:Int)^k)-1=((K-1:Nat):Int):=by
   rw[show ((2:Int)^k)=((K:Nat):Int) by rw[←HK.o];push_cast;rfl,IntKind.wrap_u64];have:=HKB.o;omega
  have HDQ:=hd (HD.o.sdp (dp-R+1));have HBQ:Hd (Below b wc (wc.setCell ⟨b,801,none⟩ (.int .i64 (dp-R+1)))):=hd ((Below.refl b wc).setCell (p:=⟨b,801,none⟩) (Nat.le_refl _) _);have hP0:DN.pad f nd R%(10*K)=DN.pad f nd R:=by
   have h1:=DN.pad_succ f nd (R-1);rw[show R-1+1=R by omega]at h1;have h2:=DN.dgt_lt HOK.o (R-1);have h3:=HR.o.1;exact Nat.mod_eq_of_lt (by omega)
  have HP0:=hd hP0;have HM:=hd (fun n (hn:n<18446744073709551616)=>and_mask n k K HK.o hk2 hn);clear hP0;go_wp2_with fail
  go_loopw [4,5,6] (fun xr xw xn wr=>∃i n:Nat,i≤800∧xr=.int .i64 ((R+i:Nat):Int)∧xw=.int .i64 (i:Int)∧xn=.int .u64 (n:Int)∧Hd (i=0∨R+i≤nd)∧Hd (n=DN.pad f nd (R+i)%(10*K))∧Hd (Below b wc wr)∧Hd (∃g,Dc wr b g nd (dp-R+1) tr∧(∀j,j<i→g j=48+DN.pad f nd (R+j)/K%10)∧∀j,i≤j→g j=f j)) (fun xr xw xn wr=>nd-(intOf xr).toNat)
  case atStart=>exact⟨0,DN.pad f nd R,by omega,rfl,rfl,rfl,hd (.inl rfl),hd HP0.o.symm,HBQ,hd ⟨f,HDQ.o,fun j hj=>absurd hj (by omega),fun j _=>rfl⟩⟩
  case round=>
   clear HBQ HDQ;obtain⟨i,n,hi8,rfl,rfl,rfl,HI,HN,HB,HG⟩:=hrel;obtain⟨g,hD,hg1,hg2⟩:=HG.o;have HDC:=hd hD;have HG1:=hd hg1;have HG2:=hd hg2;clear hD hg1 hg2 HG;have e800:=HDC.o.cnd;have hcast:((R+i:Nat):Int)=(R:Int)+i:=(by omega);rw[hcast];by_cases hlt:R+i<nd
   ·have hc:=HOK.o (R+i) hlt
    obtain⟨hc0,hc1⟩:=hc;have cj:wr.cell? ⟨b,R+i,none⟩=some (.int .u8 (f (R+i):Int)):=by
     rw[HDC.o.dig (R+i) (by omega),HG2.o (R+i) (by omega)]
    have hnb:n<10*K:=(by rw[HN.o];exact Nat.mod_lt _ (by have:=HKB.o.2;omega));have hK:=HKB.o.1;obtain⟨dg,hdg⟩:∃dg,dg=n/K:=⟨_,rfl⟩
    obtain⟨m,hm⟩:∃m,m=n%K:=⟨_,rfl⟩
    have hdg9:dg≤9:=by
     have:n/K<10:=Nat.div_lt_of_lt_mul (by rw[Nat.mul_comm];exact hnb);omega
    have hmK:m<K:=(by rw[hm];exact Nat.mod_lt _ HKB.o.2);have hs:(n:Int)/2^k=(dg:Int):=(by rw[HSH.o n,hdg]);have hand:bits .and .u64 (n:Int) ((K-1:Nat):Int)=(m:Int):=(by rw[HM.o n (by omega),hm]);have w1:IntKind.u64.wrap ((m:Int)*10)=((m*10:Nat):Int):=(by rw[IntKind.wrap_u64];omega);have w2:IntKind.u64.wrap (((m*10:Nat):Int)+(f (R+i):Int))=((m*10+f (R+i):Nat):Int):=(by rw[IntKind.wrap_u64];omega);have w3:IntKind.u64.wrap (((m*10+f (R+i):Nat):Int)-48)=((m*10+(f (R+i)-48):Nat):Int):=(by rw[IntKind.wrap_u64];omega);have HN2:Hd (m*10+(f (R+i)-48)=DN.pad f nd (R+(i+1))%(10*K)):=hd (by
     rw[show R+(i+1)=R+i+1 by omega,DN.pad_succ,DN.step_mod _ _ _ (DN.dgt_lt HOK.o _),←DN.mod_mod,←HN.o,←hm];unfold DN.dgt;rw[if_pos hlt];omega)
    have HX:Hd (dg+48=48+DN.pad f nd (R+i)/K%10):=hd (by rw[hdg,HN.o,DN.dig_mod];omega);have hltI:(R:Int)+(i:Int)<(nd:Int):=(by omega);have hRi8:R+i<800:=(by omega);have hi8':i<800:=(by omega);have zi:=HDC.o.fz i;have ci:=HDC.o.dig i hi8';have wmask:IntKind.u64.wrap ((K-1:Nat):Int)=((K-1:Nat):Int):=(by have:=HKB.o;rw[IntKind.wrap_u64];omega);generalize m*10+(f (R+i)-48)=z at *;generalize m*10+f (R+i)=y at *;generalize m*10=x at *;generalize hfc:f (R+i)=c at *;clear HN hdg hm hnb hmK hK hlt HP0;go_wp2;go_roundw
    case rel=>
     have hsd:=HDC.o.sdig i (dg+48) hi8';rw[show ((dg+48:Nat):Int)=(dg:Int)+48 by omega]at hsd;refine⟨i+1,z,by omega,by go_num,by go_num,rfl,hd (.inr (by omega)),HN2,hd (HB.o.setCell (p:=⟨b,i,none⟩) (Nat.le_refl _) _),hd ⟨_,hsd,fun j hj=>?_,fun j hj=>?_⟩⟩
     ·unfold DN.upd
      by_cases e:j=i
      ·subst e;rw[if_pos rfl];exact HX.o
      ·rw[if_neg e];exact HG1.o j (by omega)
     ·unfold DN.upd
      rw[if_neg (by omega)];exact HG2.o j (by omega)
    case measure=>simp[intOf];omega
   ·have hge:nd≤R+i:=by omega
    have hgeI:(nd:Int)≤(R:Int)+(i:Int):=(by omega);have HGE:=hd hge;have HT0:Hd (∃g,Dc wr b g nd (dp-R+1) (tr ||decide (i≠0∧DN.pad f nd (R+i-1)/K%10^(i-800)≠0))∧∀j,j<min i 800→g j=48+DN.pad f nd (R+j)/K%10):=hd ⟨g,by
     rw[show i-800=0 by omega,Nat.pow_zero,Nat.mod_one];simpa using HDC.o,fun j hj=>HG1.o j (by omega)⟩
    have wmask:IntKind.u64.wrap ((K-1:Nat):Int)=((K-1:Nat):Int):=(by have:=HKB.o;rw[IntKind.wrap_u64];omega);clear hlt hge HI HG1 HG2 HDC;go_wp2_with fail
    go_loopw [5,6] (fun xw xn wq=>∃c wn n:Nat,wn≤800∧xw=.int .i64 (wn:Int)∧xn=.int .u64 (n:Int)∧Hd (wn=min c 800)∧Hd (nd≤R+c)∧Hd (n=DN.pad f nd (R+c)%(10*K))∧Hd (Below b wc wq)∧Hd (∃g,Dc wq b g nd (dp-R+1) (tr ||decide (c≠0∧DN.pad f nd (R+c-1)/K%10^(c-800)≠0))∧∀j,j<min c 800→g j=48+DN.pad f nd (R+j)/K%10)) (fun xw xn wq=>DN.mu k (intOf xn).toNat)
    case atStart=>exact⟨i,i,n,hi8,rfl,rfl,hd (by omega),HGE,HN,HB,HT0⟩
    case round=>
     clear HT0 HGE HB HN hgeI e800;obtain⟨c,wn,n,hw8,rfl,rfl,HW,HGE,HN,HB,HG⟩:=hrel;obtain⟨g,hD,hg1⟩:=HG.o;have HDC:=hd hD;have HG1:=hd hg1;clear hD hg1 HG;have hnb:n<10*K:=(by rw[HN.o];exact Nat.mod_lt _ (by have:=HKB.o.2;omega));by_cases hn0:n=0
     ·subst hn0
      have HC1:Hd (1≤c∧DN.pad f nd (R+c)%(10*K)=0):=hd ⟨(DN.right_end HOK.o HKB.o.2 hR1 HR.o.1 HR.o.2 HN.o.symm).1,HN.o.symm⟩;have c800:=HDC.o.cnd;have z800:=HDC.o.fz 800;clear hnb HN;go_wp2_with fail
      have HD2:=hd (HDC.o.snd wn);refine(dtrim_any _ b g wn _ _ HD2.o hw8).mono ?_;rintro e w' ⟨rfl,hb,m,hm,hz,hl,hD⟩;have HB3:=hd ((HB.o.setCell (p:=⟨b,800,none⟩) (Nat.le_refl _) (.int .i64 (wn:Int))).trans hb);have HRA:Hd (RightA wc w' b f nd dp tr K R c m g):=hd (by
       have e1:(c≠0∧DN.pad f nd (R+c-1)/K%10^(c-800)≠0)↔(DN.pad f nd (R+c-1)/K%10^(c-800)≠0):=⟨fun h=>h.2,fun h=>⟨by have:=HC1.o.1;omega,h⟩⟩
       rw[decide_eq_decide.2 e1]at hD;rw[HW.o]at hm hz;exact⟨hR1,HC1.o.1,hR2,HR.o.1,HR.o.2,HC1.o.2,HGE.o,HG1.o,hm,hz,hl,hD⟩)
      clear hm hz hl hD hb;go_wp2_with fail
      go_end0
      exact⟨rfl,HB3.o,R,c,m,g,HRA.o⟩
     ·have hK:=HKB.o.1
      obtain⟨dg,hdg⟩:∃dg,dg=n/K:=⟨_,rfl⟩
      obtain⟨m,hm⟩:∃m,m=n%K:=⟨_,rfl⟩
      have hdg9:dg≤9:=by
       have:n/K<10:=Nat.div_lt_of_lt_mul (by rw[Nat.mul_comm];exact hnb);omega
      have hmK:m<K:=(by rw[hm];exact Nat.mod_lt _ HKB.o.2);have hs:(n:Int)/2^k=(dg:Int):=(by rw[HSH.o n,hdg]);have hand:bits .and .u64 (n:Int) ((K-1:Nat):Int)=(m:Int):=(by rw[HM.o n (by omega),hm]);have w1:IntKind.u64.wrap ((m:Int)*10)=((m*10:Nat):Int):=(by rw[IntKind.wrap_u64];omega);have hnI:(0:Int)<(n:Int):=(by omega);have HN2:Hd (m*10=DN.pad f nd (R+(c+1))%(10*K)):=hd (by
       rw[show R+(c+1)=R+c+1 by omega,DN.pad_succ,DN.step_mod _ _ _ (DN.dgt_lt HOK.o _),←DN.mod_mod,←HN.o,←hm];unfold DN.dgt;rw[if_neg (by have:=HGE.o;omega)];omega)
      have HX:Hd (dg=DN.pad f nd (R+c)/K%10):=hd (by rw[hdg,HN.o,DN.dig_mod]);have HMU:Hd (DN.mu k (m*10)<DN.mu k n):=hd (by
       have:=DN.mu_dec (k:=k) (n:=n) (by omega) (by rw[HK.o];exact hnb);rw[HK.o,←hm,Nat.mul_comm]at this;exact this)
      have HGE2:Hd (nd≤R+(c+1)):=hd (by have:=HGE.o;omega);have HOKX:=HX.o;generalize m*10=x at *;clear HN hdg hm hnb hmK hK hn0 HOKX;by_cases hw:wn<800
      ·have zi:=HDC.o.fz wn
       have ci:=HDC.o.dig wn hw;have hwI:(wn:Int)<800:=(by omega);go_wp2;go_roundw
       case rel=>
        have hsd:=HDC.o.sdig wn (dg+48) hw;rw[show ((dg+48:Nat):Int)=(dg:Int)+48 by omega]at hsd;have hc:wn=c:=(by have:=HW.o;omega);have e1:decide (c≠0∧DN.pad f nd (R+c-1)/K%10^(c-800)≠0)=false:=(by rw[show c-800=0 by omega,Nat.pow_zero,Nat.mod_one];simp);have e2:decide (c+1≠0∧DN.pad f nd (R+(c+1)-1)/K%10^(c+1-800)≠0)=false:=(by rw[show c+1-800=0 by omega,Nat.pow_zero,Nat.mod_one];simp);rw[e1,←e2]at hsd;refine⟨c+1,wn+1,x,by omega,by go_num,rfl,hd (by omega),HGE2,HN2,hd (HB.o.setCell (p:=⟨b,wn,none⟩) (Nat.le_refl _) _),hd ⟨_,hsd,fun j hj=>?_⟩⟩;unfold DN.upd;by_cases e:j=wn
        ·rw[if_pos e,e,hc];have:=HX.o;omega
        ·rw[if_neg e];exact HG1.o j (by omega)
       case measure=>
        show DN.mu k ((x:Int)).toNat<DN.mu k ((n:Int)).toNat
        rw[Int.toNat_natCast,Int.toNat_natCast];exact HMU.o
      ·obtain rfl:wn=800:=by omega
       have hc8:800≤c:=(by have:=HW.o;omega);have HC8:=hd hc8;have HTR:=hd (DN.trunc_step (K:=K) (R:=R) HOK.o c hc8);clear hw hc8;by_cases hd0:dg=0
       ·subst hd0
        go_wp2;go_roundw
        case rel=>
         have hD:=HDC.o;have e1:(c≠0∧DN.pad f nd (R+c-1)/K%10^(c-800)≠0)↔(c+1≠0∧DN.pad f nd (R+(c+1)-1)/K%10^(c+1-800)≠0):=by
          rw[show R+(c+1)-1=R+c by omega,HTR.o,←HX.o];have:=HC8.o;omega
         rw[decide_eq_decide.2 e1]at hD;exact⟨c+1,800,x,by omega,rfl,rfl,hd (by have:=HC8.o;omega),HGE2,HN2,HB,hd ⟨g,hD,fun j hj=>HG1.o j (by have:=HC8.o;omega)⟩⟩
        case measure=>
         show DN.mu k ((x:Int)).toNat<DN.mu k ((n:Int)).toNat
         rw[Int.toNat_natCast,Int.toNat_natCast];exact HMU.o
       ·have hdI:(0:Int)<(dg:Int):=by omega
        have z803:=HDC.o.fz 803;have c803:=HDC.o.ctr;go_wp2;go_roundw
        case rel=>
         have hD:=HDC.o.str true;have e1:(tr ||decide (c+1≠0∧DN.pad f nd (R+(c+1)-1)/K%10^(c+1-800)≠0))=true:=by
          rw[show R+(c+1)-1=R+c by omega,HTR.o,←HX.o,decide_eq_true (by omega)];exact Bool.or_true _
         exact⟨c+1,800,x,by omega,rfl,rfl,hd (by have:=HC8.o;omega),HGE2,HN2,hd (HB.o.setCell (p:=⟨b,803,none⟩) (Nat.le_refl _) _),hd ⟨g,by rw[e1];exact hD,fun j hj=>HG1.o j (by have:=HC8.o;omega)⟩⟩
        case measure=>
         show DN.mu k ((x:Int)).toNat<DN.mu k ((n:Int)).toNat
         rw[Int.toNat_natCast,Int.toNat_natCast];exact HMU.o
namespace DN
def lessB (f:Nat→Nat)(nd:Nat)(l:List UInt8):Bool:=decide (dvf f nd*10^l.length<dvf (fOf l) l.length*10^nd)
theorem lessB_t {f:Nat→Nat}{nd:Nat}{l:List UInt8}(h:LessP f nd (fOf l) l.length):lessB f nd l=true:=decide_eq_true h
theorem lessB_f {f:Nat→Nat}{nd:Nat}{l:List UInt8}(h:¬ LessP f nd (fOf l) l.length):lessB f nd l=false:=decide_eq_false h
end DN
theorem ret_bool_eq {a b:Bool}(h:a=b):Ending.returned (.bool a)=.returned (.bool b):=by rw[h]
theorem drew2 (w:World)(a b:Nat):(w.drewN a).drewN b=w.drewN (a+b):=World.drewN_drewN ..
theorem drewx (w:World)(a b c:Nat):((w.drewN a).drewN b).drewN c=w.drewN (a+b+c):=by rw[drew2,drew2,Nat.add_assoc]
theorem fOf_at (s:ByteArray)(k:Nat)(h:k<s.size):DN.fOf s.data.toList k=(s[k]'h).toNat:=by
 unfold DN.fOf;have:=data_drop' s k h;have e:s.data.toList[k]?=some s[k]:=by
  have:=congrArg (·[0]?) this;simpa using this
 rw[List.getD_eq_getElem?_getD,e];rfl
theorem pless_any (w:World)(b:Nat)(f:Nat→Nat)(nd:Nat)(dp:Int)(tr:Bool)(cap:Nat)(s:ByteArray)(D:Dc w b f nd dp tr)(hnd:nd≤800)(hs:s.size≤100)(hok:DN.Ok f nd)(hsok:DN.Ok (DN.fOf s.data.toList) s.data.toList.length)(hs1:1≤s.size)(hsl:49≤DN.fOf s.data.toList (s.data.toList.length-1)) :
  Calls prog 225 #[.slice (some ⟨b,0,none⟩) nd cap,.string s] w fun e w'=>e=.returned (.bool (DN.lessB f nd s.data.toList))∧∃m,w'=w.drewN m:=by
 have HD:=hd D;have HSZ:=hd (Lib.size_eq s);have HOK:=hd hok;have HSOK:=hd hsok;have HSL:=hd hsl;clear D hok hsok hsl;go_enter func225,ntmps225;go_wp2_with fail
 go_loopw [5] (fun x wr=>∃k q:Nat,k≤s.size∧k≤nd∧x=.int .i64 (k:Int)∧wr=w.drewN q∧Hd (∀j,j<k→f j=DN.fOf s.data.toList j)) (fun x _=>s.size-(intOf x).toNat)
 case atStart=>exact⟨0,0,Nat.zero_le _,Nat.zero_le _,rfl,rfl,hd (fun j hj=>absurd hj (by omega))⟩
 case round=>
  obtain⟨k,q,hk,hkn,rfl,rfl,HE⟩:=hrel;by_cases hks:k<s.size
  ·by_cases hkd:k<nd
   ·have cj:=HD.o.dig k (by omega)
    have HS:=hd (fOf_at s k hks);have hc:(s[k]'hks).toNat<256:=(s[k]'hks).toNat_lt;have hk8:k<800:=(by omega);have HFO:=hd (HOK.o k hkd);have HSO:=hd (HSOK.o k (by rw[←HSZ.o];exact hks));have hsz:k<s.data.toList.length:=(by rw[←HSZ.o];exact hks);have HLEN:=hd hsz;clear hsz;generalize hfk:f k=x at *;have HFK:=hd hfk;clear hfk;rcases Nat.lt_trichotomy x (s[k]'hks).toNat with c|c|c
    ·have t1:((x:Int)!=((s[k]'hks).toNat:Int))=true:=by rw[bne_iff_ne];omega
     have HQ:Hd (DN.lessB f nd s.data.toList=true):=hd (DN.lessB_t (DN.pl_lt HOK.o k hkd HLEN.o HE.o (by rw[HFK.o,HS.o];exact c) (by have:=HFO.o.1;rw[HFK.o];exact this)));have hcI:((x:Int)<((s[k]'hks).toNat:Int)):=(by omega);clear HE;go_wp2_with fail
     go_quiet (fail)
     go_wp2
     go_quiet (fail)
     go_wp2;go_ret;exact⟨ret_bool_eq HQ.o.symm,_,drewx _ _ _ _⟩
    ·have t1:((x:Int)!=((s[k]'hks).toNat:Int))=false:=by rw[bne_eq_false_iff_eq];omega
     have HE2:Hd (∀j,j<k+1→f j=DN.fOf s.data.toList j):=hd (fun j hj=>by
      rcases Nat.lt_or_ge j k with h|h
      ·exact HE.o j h
      ·obtain rfl:j=k:=by omega
       rw[HFK.o,HS.o];exact c)
     clear HE c;go_wp2_with fail
     go_quiet (fail)
     go_wp2;go_roundw
     case rel=>exact⟨k+1,_,by omega,by omega,by go_num,rfl,HE2⟩
     case measure=>simp[intOf];omega
    ·have t1:((x:Int)!=((s[k]'hks).toNat:Int))=true:=by rw[bne_iff_ne];omega
     have HQ:Hd (DN.lessB f nd s.data.toList=false):=hd (DN.lessB_f (DN.pl_gt HSOK.o k hkd HLEN.o HE.o (by rw[HFK.o,HS.o];exact c) HSO.o.1));have hcI:¬ ((x:Int)<((s[k]'hks).toNat:Int)):=(by omega);clear HE;go_wp2_with fail
     go_quiet (fail)
     go_wp2
     go_quiet (fail)
     go_wp2;go_ret;exact⟨ret_bool_eq (by rw[HQ.o];exact decide_eq_false (Nat.not_lt.2 (Nat.le_of_lt c))),_,drewx _ _ _ _⟩
   ·obtain rfl:k=nd:=by omega
    have HQ:Hd (DN.lessB f k s.data.toList=true):=hd (DN.lessB_t (DN.pl_short (by rw[←HSZ.o];exact hks) HE.o HSL.o));clear HE;go_wp2;go_ret;exact⟨ret_bool_eq HQ.o.symm,_,rfl⟩
  ·obtain rfl:k=s.size:=by omega
   have HQ:Hd (DN.lessB f nd s.data.toList=false):=hd (DN.lessB_f (DN.pl_all (by rw[←HSZ.o];exact hkn) (by rw[←HSZ.o];exact HE.o)));clear HE;go_wp2;go_ret;exact⟨ret_bool_eq HQ.o.symm,_,rfl⟩
theorem slice_dec (W:World)(b n:Nat)(h:n≤800) :
  (Instr.sliceAt 229 (.pointer (some ⟨b,0,none⟩)) (some (.int .i64 0)) (some (.int .i64 (n:Int))) none).run prog W=.ok (.slice (some ⟨b,0,none⟩) n 800) W:=by
 have hal:prog.arrayLen 229=800:=(by kernel_rfl);have hel:prog.elem 229=5:=(by kernel_rfl);rw[run_sliceAt_array_lh W 229 ⟨b,0,none⟩ (by rw[hal,hel];kernel_rfl) .i64 .i64 0 (n:Int) (by omega) (by omega) (by rw[hal];omega),hal,hel];have hs:(sizeOf 5).run prog W=.ok 1 W:=(by kernel_rfl);rw[hs];simp[slicedAt,go_sem]
structure Lc (w:World)(b:Nat):Prop where
 ex:∃B o cap,B<b∧11<b∧w.cell? ⟨11,0,none⟩=some (.slice (some ⟨B,o,none⟩) 61 cap)∧∀k,k≤60→w.cell? ⟨B,o+k*2,none⟩=some (.int .i64 (DN.chD k:Int))∧w.cell? ⟨B,o+k*2+1,none⟩=some (.string ⟨(DN.chS k).toArray⟩)
theorem Lc.below {w w':World}{b:Nat}(h:Lc w b)(hb:Below b w w'):Lc w' b:=by
 obtain⟨B,o,cap,h1,h2,h3,h4⟩:=h.ex;exact⟨B,o,cap,h1,h2,by rw[hb.cell (p:=⟨_,0,none⟩) h2];exact h3,fun k hk=>⟨by rw[hb.cell (p:=⟨_,_,none⟩) h1];exact(h4 k hk).1,by rw[hb.cell (p:=⟨_,_,none⟩) h1];exact(h4 k hk).2⟩⟩
structure LeftA (w w':World)(b:Nat)(dp:Int)(tr:Bool)(T i nd m:Nat)(g:Nat→Nat):Prop where
 dg:∀j,j<min i 800→g j=48+T/10^(i-1-j)%10
 mn:m≤min i 800
 mz:∀j,m≤j→j<min i 800→g j=48
 ml:m=0∨g (m-1)≠48
 dc:Dc w' b g m (if m=0 then 0 else dp+(i-nd:Nat)) (tr ||decide (T%10^(i-800)≠0))
theorem left_any (w:World)(b:Nat)(f:Nat→Nat)(nd:Nat)(dp:Int)(tr:Bool)(k:Nat)(D:Dc w b f nd dp tr)(hnd:nd≤800)(hnd0:0<nd)(hok:DN.Ok f nd)(hf0:49≤f 0)(hk1:1≤k)(hk2:k≤60)(hdp : -5000≤dp)(hdp2:dp≤5000)(hL:Lc w b) :
  Calls prog 218 #[.pointer (some ⟨b,0,none⟩),.int .u64 (k:Int)] w fun e w'=>e=.returned (.tuple #[])∧Below b w w'∧∃m g,LeftA w w' b dp tr (DN.dvf f nd*2^k) (DN.newD f nd k) nd m g:=by
 obtain⟨B,o,cap,_,_,hc0,hcs⟩:=hL.ex;obtain⟨hcd,hcc⟩:=hcs k hk2;clear hcs hL;have C:=DN.ch_at hk1 hk2;obtain⟨K,hK⟩:∃K,2^k=K:=⟨_,rfl⟩
 obtain⟨T,hT⟩:∃T,DN.dvf f nd*2^k=T:=⟨_,rfl⟩
 obtain⟨i,hi⟩:∃i,DN.newD f nd k=i:=⟨_,rfl⟩
 have hbd:=DN.newD_bd C hok hnd0 hf0;rw[hT,hi]at hbd ⊢;obtain⟨hb1,hb2,hb3,hb4⟩:=hbd;have hKb:K≤1152921504606846976:=(by rw[←hK];exact Nat.pow_le_pow_right (by decide) hk2);have hK1:1≤K:=(by rw[←hK];exact Nat.two_pow_pos k);have hC:=C.l;have hC1:=C.d1;have hC2:=C.s1;obtain⟨s,hs⟩:∃s:ByteArray,s=⟨(DN.chS k).toArray⟩:=⟨_,rfl⟩
 have hsl:s.data.toList=DN.chS k:=(by rw[hs]);have hss:s.size=(DN.chS k).length:=(by rw[Lib.size_eq,hsl]);rw[←hs]at hcc;have hless:DN.dvf f nd*10^s.data.toList.length<DN.dvf (DN.fOf s.data.toList) s.data.toList.length*10^nd↔DN.dvf f nd*10^(DN.chS k).length<5^k*10^nd:=by
  rw[hsl,C.v]
 have hdl:(i:Int)=nd+DN.chD k-(if DN.lessB f nd s.data.toList=true then 1 else 0):=by
  rw[←hi];unfold DN.newD DN.lessB;by_cases c:DN.dvf f nd*10^(DN.chS k).length<5^k*10^nd
  ·rw[if_pos c,if_pos (decide_eq_true (hless.2 c))];omega
  ·rw[if_neg c,decide_eq_false (fun h=>c (hless.1 h))];simp
 obtain⟨C0,hC0⟩:∃C0,C0=DN.chD k:=⟨_,rfl⟩
 rw[←hC0]at hcd hdl hb4 hC1 hC;have hC60:C0≤60:=(by omega);have HD:=hd D;have HOK:=hd hok;have HF0:=hd hf0;have HKB:=hd (And.intro hKb hK1);have HK:=hd hK;have HT:=hd hT;have HB1:=hd hb1;have HB2:=hd hb2;obtain⟨lb,hlb⟩:∃lb,lb=DN.lessB f nd s.data.toList:=⟨_,rfl⟩
 rw[←hlb]at hdl;have HP:=hd (fun q=>by have h:=pless_any (w.drewN q) b f nd dp tr 800 s (D.drew q) hnd (by rw[hss];omega) hok (by rw[hsl];exact C.ok) (by rw[hss];exact hC2) (by rw[hsl];exact C.ls);rw[←hlb]at h;exact h);have HLB:=hd hlb;obtain⟨dl,hdl2⟩:∃dl:Nat,i=nd+dl:=⟨i-nd,by omega⟩
 subst hdl2;have HDL:Hd ((dl:Int)=C0-(if lb=true then 1 else 0)):=hd (by omega);have hdl60:dl≤60:=(by omega);have c800:=HD.o.cnd;have hk61:k<61:=(by omega);have hk61I:(k:Int)<61:=(by omega);have hsc:=fun W:World=>slice_dec W b nd hnd
 clear D hok hf0 hKb hK1 hK hT hb1 hb2 hb3 hb4 hC hC2 hC0 hs hsl hss hless hdl hlb C hi hnd0 hC1;go_enter func218,ntmps218;go_wp2_with fail
 go_quiet ((go_at_call 225;exact Calls.quiet_of (HP.o _)))
 go_upto_if 30 with fail
 go_cut [4] from 4 to 32 (fun x4 wx=>x4=.int .i64 (dl:Int)∧∃q,wx=w.drewN q)
 case first=>
  cases lb with
  |true=>
   have h1:(C0:Int)-1=(dl:Int):=(by have:=HDL.o;rw[if_pos rfl]at this;omega);go_wp2;go_meet
   case rel=>exact⟨rfl,_,rfl⟩
  |false=>
   have h1:(C0:Int)=(dl:Int):=(by have:=HDL.o;rw[if_neg (by decide)]at this;omega);obtain rfl:C0=dl:=by omega
   go_wp2;go_meet
   case rel=>exact⟨rfl,_,rfl⟩
 case rest=>
  obtain⟨rfl,q,rfl⟩:=hcut;have HDQ:=hd (HD.o.drew q);have e800:=HDQ.o.cnd;have HBQ:Hd (Below b w (w.drewN q)):=hd (bel_drew (Below.refl _ _) _);clear c800 hc0 hcd hcc HP HDL HLB;go_wp2_with fail
  go_loopw [5,6,7] (fun xr xw xn wr=>∃rr a ww n:Nat,rr≤nd∧xr=.int .i64 ((rr:Int)-1)∧xw=.int .i64 (ww:Int)∧xn=.int .u64 (n:Int)∧Hd (rr+a=nd)∧Hd (ww=rr+dl)∧Hd (n=DN.dvf f nd%10^a*K/10^a)∧Hd (Below b w wr)∧Hd (∃g,Dc wr b g nd dp (DN.LT tr T (nd+dl) a)∧DN.LG g T (nd+dl) a∧∀j,j<rr→g j=f j)) (fun xr _ _ _=>(intOf xr+1).toNat)
  case atStart=>exact⟨nd,0,nd+dl,0,Nat.le_refl _,rfl,by go_num,rfl,hd rfl,hd rfl,hd (by rw[Nat.pow_zero,Nat.mod_one,Nat.zero_mul,Nat.zero_div]),HBQ,hd ⟨f,by rw[DN.LT.start];exact HDQ.o,DN.LG.start f T (nd+dl),fun _ _=>rfl⟩⟩
  case round=>
   clear HDQ HBQ e800;obtain⟨rr,a,ww,n,hrr,rfl,rfl,rfl,HA,HW,HN,HB,HG⟩:=hrel;obtain⟨g,hD,hg1,hg2⟩:=HG.o;have HDC:=hd hD;have HG1:=hd hg1;have HG2:=hd hg2;clear hD hg1 hg2 HG;have e800:=HDC.o.cnd;have hwb:ww≤1000:=(by have:=HW.o;omega);by_cases h0:rr=0
   ·subst h0
    have HS:Hd (∃g,Dc wr b g nd dp (DN.LT tr T (nd+dl) a)∧DN.LG g T (nd+dl) a):=hd ⟨g,HDC.o,HG1.o⟩;have HN2:Hd (n=T/10^a):=hd (by
     have ea:a=nd:=(by have:=HA.o;omega);rw[HN.o,ea,Nat.mod_eq_of_lt (DN.dvf_lt HOK.o),HK.o.symm,HT.o])
    have HNK:Hd (n<K):=hd (by rw[HN.o];exact DN.carry_lt _ _ _ HKB.o.2);have HWA:Hd (ww+a=nd+dl):=hd (by have:=HA.o;have:=HW.o;omega);clear HDC HG1 HG2 HN HA HW e800;go_wp2_with fail
    go_loopw [6,7] (fun xw xn wr=>∃a ww n:Nat,ww≤1000∧xw=.int .i64 (ww:Int)∧xn=.int .u64 (n:Int)∧Hd (ww+a=nd+dl)∧Hd (n=T/10^a)∧Hd (n<K)∧Hd (Below b w wr)∧Hd (∃g,Dc wr b g nd dp (DN.LT tr T (nd+dl) a)∧DN.LG g T (nd+dl) a)) (fun _ xn _=>(intOf xn).toNat)
    case atStart=>exact⟨a,ww,n,hwb,rfl,rfl,HWA,HN2,HNK,HB,HS⟩
    case round=>
     clear HS HN2 HNK HWA HB hwb;obtain⟨a,ww,n,hwb,rfl,rfl,HWA,HN,HNK,HB,HG⟩:=hrel;obtain⟨g,hD,hg1⟩:=HG.o;have HDC:=hd hD;have HG1:=hd hg1;clear hD hg1 HG;by_cases hn0:n=0
     ·subst hn0
      have ha:a=nd+dl:=by
       have h1:=HN.o;have h2:=HB1.o;have h3:=HWA.o;rcases Nat.lt_or_ge a (nd+dl) with c|c
       ·exfalso
        have h4:10^a≤10^(nd+dl-1):=Nat.pow_le_pow_right (by decide) (by omega);have h5:0<T/10^a:=Nat.div_pos (by omega) (Nat.pow_pos (by decide));omega
       ·omega
      have hltr:DN.LT tr T (nd+dl) a=(tr ||decide (T%10^(nd+dl-800)≠0)):=by
       unfold DN.LT;rw[ha,show min (nd+dl) (nd+dl-800)=nd+dl-800 by omega]
      have HDC2:=hd HDC.o;have hD2:=HDC.o;rw[hltr]at hD2;have HD3:=hd hD2;have HLG:Hd (∀j,j<min (nd+dl) 800→g j=48+T/10^(nd+dl-1-j)%10):=hd (fun j hj=>HG1.o j (by omega) hj);have e800:=HDC.o.cnd;have e801:=HDC.o.cdp;have z800:=HDC.o.fz 800;have z801:=HDC.o.fz 801;have HAL:=hd ha;clear ha hltr hD2 HN HNK HDC HDC2 HG1;by_cases h8:800≤nd+dl
      ·have h8I:(800:Int)≤(nd:Int)+(dl:Int):=by omega
       go_wp2_with fail
       have hw2:=((HD3.o.snd (nd+dl)).snd 800).sdp (dp+dl);rw[show ((nd+dl:Nat):Int)=(nd:Int)+dl by omega]at hw2;refine(dtrim_any _ b g 800 _ _ hw2 (by omega)).mono ?_;rintro e w' ⟨rfl,hb,m,hm,hz,hl,hDD⟩;have HB3:=hd ((((HB.o.setCell (p:=⟨b,800,none⟩) (Nat.le_refl _) (.int .i64 ((nd:Int)+dl))).setCell (p:=⟨b,800,none⟩) (Nat.le_refl _) (.int .i64 ((800:Nat):Int))).setCell (p:=⟨b,801,none⟩) (Nat.le_refl _) (.int .i64 (dp+dl))).trans hb);have HRA:Hd (LeftA w w' b dp tr T (nd+dl) nd m g):=hd (by
        refine⟨HLG.o,by omega,fun j h1 h2=>hz j h1 (by omega),hl,?_⟩;rw[Nat.add_sub_cancel_left];exact hDD)
       clear hm hz hl hDD hb;go_wp2_with fail
       go_end0
       exact⟨rfl,HB3.o,m,g,HRA.o⟩
      ·have h8I:¬ (800:Int)≤(nd:Int)+(dl:Int):=by omega
       go_wp2_with fail
       have hw2:=(HD3.o.snd (nd+dl)).sdp (dp+dl);have hnn:nd+dl≤800:=(by omega);refine(dtrim_any _ b g (nd+dl) _ _ hw2 hnn).mono ?_;rintro e w' ⟨rfl,hb,m,hm,hz,hl,hDD⟩;have HB3:=hd (((HB.o.setCell (p:=⟨b,800,none⟩) (Nat.le_refl _) (.int .i64 ((nd+dl:Nat):Int))).setCell (p:=⟨b,801,none⟩) (Nat.le_refl _) (.int .i64 (dp+dl))).trans hb);have HRA:Hd (LeftA w w' b dp tr T (nd+dl) nd m g):=hd (by
        refine⟨HLG.o,by omega,fun j h1 h2=>hz j h1 (by omega),hl,?_⟩;rw[Nat.add_sub_cancel_left];exact hDD)
       clear hm hz hl hDD hb;go_wp2_with fail
       go_end0
       exact⟨rfl,HB3.o,m,g,HRA.o⟩
     ·have hwp:0<ww:=by
       rcases Nat.eq_zero_or_pos ww with c|c
       ·exfalso
        apply hn0;rw[HN.o];apply Nat.div_eq_of_lt;have h1:=HWA.o;rw[show a=nd+dl by omega];exact HB2.o
       ·exact c
      obtain⟨wp,rfl⟩:∃wp,ww=wp+1:=⟨ww-1,by omega⟩
      have ew:((wp+1:Nat):Int)-1=(wp:Int):=(by omega);have hnI:(0:Int)<(n:Int):=(by omega);obtain⟨qq,hq⟩:∃qq,qq=n/10:=⟨_,rfl⟩
      obtain⟨rm,hrm⟩:∃rm,rm=n%10:=⟨_,rfl⟩
      have hnk:n<1152921504606846976:=(by have:=HNK.o;have:=HKB.o;omega);have d1:(n:Int)/10=(qq:Int):=(by omega);have wq:IntKind.u64.wrap (qq:Int)=(qq:Int):=(by rw[IntKind.wrap_u64];omega);have w3:IntKind.u64.wrap (10*(qq:Int))=((10*qq:Nat):Int):=(by rw[IntKind.wrap_u64];omega);have w4:IntKind.u64.wrap ((n:Int)-((10*qq:Nat):Int))=(rm:Int):=(by rw[IntKind.wrap_u64];omega);have hr9:rm≤9:=(by omega);have HQ:Hd (qq=T/10^(a+1)):=hd (by rw[hq,HN.o,DN.top_next]);have HR:Hd (rm=T/10^a%10):=hd (by rw[hrm,HN.o]);have HQK:Hd (qq<K):=hd (by have:=HNK.o;omega);have HQN:Hd (qq<n):=hd (by omega)
      have HWA2:Hd (wp+(a+1)=nd+dl):=hd (by have:=HWA.o;omega);have HIA:Hd (nd+dl-(a+1)=wp∧a<nd+dl):=hd (by have:=HWA.o;omega);generalize 10*qq=x at *;clear hq hrm hnk hn0 HNK HWA hwp HN;by_cases hw:wp<800
      ·have zi:=HDC.o.fz wp
       have ci:=HDC.o.dig wp hw;have hwI:(wp:Int)<800:=(by omega);go_wp2;go_roundw
       case rel=>
        have hsd:=HDC.o.sdig wp (rm+48) hw;rw[show ((rm+48:Nat):Int)=(rm:Int)+48 by omega,←DN.LT.put (by rw[HIA.o.1];exact hw) HIA.o.2]at hsd;have hlg:=DN.LG.put HG1.o HIA.o.2 (show rm+48=48+T/10^a%10 by have:=HR.o;omega);rw[HIA.o.1]at hlg;exact⟨a+1,wp,qq,by omega,rfl,rfl,HWA2,HQ,HQK,hd (HB.o.setCell (p:=⟨b,wp,none⟩) (Nat.le_refl _) _),hd ⟨_,hsd,hlg⟩⟩
       case measure=>
        show ((qq:Int)).toNat<((n:Int)).toNat
        rw[Int.toNat_natCast,Int.toNat_natCast];exact HQN.o
      ·have hwI:¬ (wp:Int)<800:=by omega
       have HW8:Hd (800≤nd+dl-(a+1)):=hd (by rw[HIA.o.1];omega);by_cases hd0:rm=0
       ·subst hd0
        go_wp2;go_roundw
        case rel=>
         have hsd:=HDC.o;rw[←DN.LT.zero HW8.o HR.o.symm]at hsd;exact⟨a+1,wp,qq,by omega,rfl,rfl,HWA2,HQ,HQK,HB,hd ⟨_,hsd,HG1.o.skip HW8.o⟩⟩
        case measure=>
         show ((qq:Int)).toNat<((n:Int)).toNat
         rw[Int.toNat_natCast,Int.toNat_natCast];exact HQN.o
       ·have t1:((rm:Int)!=0)=true:=by rw[bne_iff_ne];omega
        have z803:=HDC.o.fz 803;have c803:=HDC.o.ctr;have HR0:Hd (rm≠0):=hd hd0;clear hd0;go_wp2;go_roundw
        case rel=>
         exact⟨a+1,wp,qq,by omega,rfl,rfl,HWA2,HQ,HQK,hd (HB.o.setCell (p:=⟨b,803,none⟩) (Nat.le_refl _) _),hd ⟨g,by rw[DN.LT.one (tr:=tr) HW8.o (by rw[←HR.o];exact HR0.o)];exact HDC.o.str true,HG1.o.skip HW8.o⟩⟩
        case measure=>
         show ((qq:Int)).toNat<((n:Int)).toNat
         rw[Int.toNat_natCast,Int.toNat_natCast];exact HQN.o
   ·obtain⟨r,rfl⟩:∃r,rr=r+1:=⟨rr-1,by omega⟩
    have er:((r+1:Nat):Int)-1=(r:Int):=(by omega);rw[er];have hc:=HOK.o r (by omega);obtain⟨hc0,hc1⟩:=hc;have cj:wr.cell? ⟨b,r,none⟩=some (.int .u8 (f r:Int)):=(by rw[HDC.o.dig r (by omega),HG2.o r (by omega)]);obtain⟨wp,rfl⟩:∃wp,ww=wp+1:=⟨ww-1,by have:=HW.o;omega⟩
    have ew:((wp+1:Nat):Int)-1=(wp:Int):=(by omega);have hn:n<K:=(by rw[HN.o];exact DN.carry_lt _ _ _ HKB.o.2);have hKb:=HKB.o.1;have HY:Hd (DN.dvf f nd/10^a%10=f r-48):=hd (by
     have h1:=HA.o;rw[show a=nd-(r+1) by omega,DN.dvf_div HOK.o (r+1) (by omega),DN.dvf];omega)
    obtain⟨y,hy⟩:∃y,y=(f r-48)*K:=⟨_,rfl⟩
    have hyb:y≤9*K:=(by rw[hy];exact Nat.mul_le_mul_right _ (by omega));have w1:IntKind.u64.wrap (((f r:Int)-48)*2^k)=(y:Int):=by
     have e1:((f r:Int)-48)*2^k=((y:Nat):Int):=by
      rw[hy,←HK.o];push_cast;rw[show ((f r-48:Nat):Int)=(f r:Int)-48 by omega]
     rw[e1,IntKind.wrap_u64];omega
    have w2:IntKind.u64.wrap ((n:Int)+(y:Int))=((n+y:Nat):Int):=(by rw[IntKind.wrap_u64];omega);obtain⟨z,hz⟩:∃z,z=n+y:=⟨_,rfl⟩
    rw[←hz]at w2;obtain⟨qq,hq⟩:∃qq,qq=z/10:=⟨_,rfl⟩
    obtain⟨rm,hrm⟩:∃rm,rm=z%10:=⟨_,rfl⟩
    have d1:(z:Int)/10=(qq:Int):=(by omega);have wq:IntKind.u64.wrap (qq:Int)=(qq:Int):=(by rw[IntKind.wrap_u64];omega);have w3:IntKind.u64.wrap (10*(qq:Int))=((10*qq:Nat):Int):=(by rw[IntKind.wrap_u64];omega);have w4:IntKind.u64.wrap ((z:Int)-((10*qq:Nat):Int))=(rm:Int):=(by rw[IntKind.wrap_u64];omega);have hr9:rm≤9:=(by omega);have HZ:Hd (z=DN.dvf f nd%10^(a+1)*K/10^a):=hd (by rw[DN.carry,hz,HN.o,hy,HY.o]);have HQ:Hd (qq=DN.dvf f nd%10^(a+1)*K/10^(a+1)):=hd (by rw[hq,HZ.o,DN.carry_next]);have HR:Hd (rm=T/10^a%10):=hd (by rw[hrm,HZ.o,DN.carry_digit,←HT.o,HK.o])
    have HIA:Hd (nd+dl-(a+1)=wp∧a<nd+dl):=hd (by have:=HA.o;have:=HW.o;omega);have HA2:Hd (r+(a+1)=nd):=hd (by have:=HA.o;omega);have HW2:Hd (wp=r+dl):=hd (by have:=HW.o;omega);have hrw:r≤wp:=(by have:=HW2.o;omega);have hr8:r<800:=(by omega);have hrI:(0:Int)≤(r:Int):=(by omega);have HRW:=hd hrw;generalize hfr:f r=c at *;generalize 10*qq=x at *;clear hq hrm hz hy hyb hn hKb HN HA HW HY HZ hrw er;by_cases hw:wp<800
    ·have zi:=HDC.o.fz wp
     have ci:=HDC.o.dig wp hw;have hwI:(wp:Int)<800:=(by omega);go_wp2;go_roundw
     case rel=>
      have hsd:=HDC.o.sdig wp (rm+48) hw;rw[show ((rm+48:Nat):Int)=(rm:Int)+48 by omega,←DN.LT.put (by rw[HIA.o.1];exact hw) HIA.o.2]at hsd;have hlg:=DN.LG.put HG1.o HIA.o.2 (show rm+48=48+T/10^a%10 by have:=HR.o;omega);rw[HIA.o.1]at hlg;exact⟨r,a+1,wp,qq,by omega,rfl,rfl,rfl,HA2,HW2,HQ,hd (HB.o.setCell (p:=⟨b,wp,none⟩) (Nat.le_refl _) _),hd ⟨_,hsd,hlg,fun j hj=>by
       first|unfold DN.upd|skip
       show (if j=wp then rm+48 else g j)=f j
       rw[if_neg (by have:=HRW.o;omega)];exact HG2.o j (by omega)⟩⟩
     case measure=>first|(simp[intOf];done)|(simp[intOf];omega)
    ·have hwI:¬ (wp:Int)<800:=by omega
     have HW8:Hd (800≤nd+dl-(a+1)):=hd (by rw[HIA.o.1];omega);by_cases hd0:rm=0
     ·subst hd0
      go_wp2;go_roundw
      case rel=>
       have hsd:=HDC.o;rw[←DN.LT.zero HW8.o HR.o.symm]at hsd;exact⟨r,a+1,wp,qq,by omega,rfl,rfl,rfl,HA2,HW2,HQ,HB,hd ⟨_,hsd,HG1.o.skip HW8.o,fun j hj=>HG2.o j (by omega)⟩⟩
      case measure=>first|(simp[intOf];done)|(simp[intOf];omega)
     ·have t1:((rm:Int)!=0)=true:=by rw[bne_iff_ne];omega
      have z803:=HDC.o.fz 803;have c803:=HDC.o.ctr;have HR0:Hd (rm≠0):=hd hd0;clear hd0;go_wp2;go_roundw
      case rel=>
       exact⟨r,a+1,wp,qq,by omega,rfl,rfl,rfl,HA2,HW2,HQ,hd (HB.o.setCell (p:=⟨b,803,none⟩) (Nat.le_refl _) _),hd ⟨g,by rw[DN.LT.one (tr:=tr) HW8.o (by rw[←HR.o];exact HR0.o)];exact HDC.o.str true,HG1.o.skip HW8.o,fun j hj=>HG2.o j (by omega)⟩⟩
      case measure=>first|(simp[intOf];done)|(simp[intOf];omega)
structure ShA (xh K:Nat)(w:World)(b:Nat)(lo hi:Int)(e:Int):Prop where
 ex:∃g m dp tr,Dc w b g m dp tr∧DN.SS xh (DN.GG K) g m dp tr e∧g (m-1)≠48∧lo≤dp∧dp≤hi
structure ShV (xh K:Nat)(w:World)(b:Nat)(lo hi:Int)(e:Int)(V:Nat):Prop where
 ex:∃g m dp tr,Dc w b g m dp tr∧DN.SS xh (DN.GG K) g m dp tr e∧g (m-1)≠48∧lo≤dp∧dp≤hi∧DN.SV (DN.dvf g m) (dp-m) e≤V
section
variable {xh K:Nat} {w:World} {b:Nat} {f:Nat→Nat} {nd:Nat} {dp:Int} {tr:Bool} {e:Int}
theorem right_ss (k:Nat)(D:Dc w b f nd dp tr)(S:DN.SS xh (DN.GG K) f nd dp tr e)(h2:xh<18014398509481984*DN.HH K)(hk1:1≤k)(hk2:k≤60)(hdp : -1000≤dp)(hdp2:dp≤700)(hj:e+k≤DN.jj K)(he : -1200≤e) :
  Calls prog 219 #[.pointer (some ⟨b,0,none⟩),.int .u64 (k:Int)] w fun r w'=>r=.returned (.tuple #[])∧Below b w w'∧ShA xh K w' b (dp-19) dp (e+k):=
 (right_any w b f nd dp tr k D S.n8 S.n1 S.ok S.vpos hk1 hk2 (by omega) (by omega)).mono fun r w' ⟨h1,hb,R,i,m,g,A⟩=>by
  obtain⟨T,hR⟩:=S.right h2 A.r1 A.i1 hk2 A.lo A.hi A.ex A.ri A.dg A.mn A.mz (by omega) (by omega) hj he;have hm:m≠0:=(by have:=T.n1;omega);have hd:=A.dc;rw[if_neg hm]at hd;exact⟨h1,hb,⟨g,m,_,_,hd,T,A.ml.resolve_left hm,by omega,by have:=A.r1;omega⟩⟩
theorem left_ss (k:Nat)(D:Dc w b f nd dp tr)(L:Lc w b)(S:DN.SS xh (DN.GG K) f nd dp tr e)(h2:xh<18014398509481984*DN.HH K)(hk1:1≤k)(hk2:k≤60)(hdp : -1000≤dp)(hdp2:dp≤700)(hj:e≤DN.jj K)(he : -1200≤e-k) :
  Calls prog 218 #[.pointer (some ⟨b,0,none⟩),.int .u64 (k:Int)] w fun r w'=>r=.returned (.tuple #[])∧Below b w w'∧ShV xh K w' b dp (dp+19) (e-k) (DN.SV (DN.dvf f nd) (dp-nd) e):=
 (left_any w b f nd dp tr k D S.n8 S.n1 S.ok S.f0 hk1 hk2 (by omega) (by omega) L).mono fun r w' ⟨h1,hb,m,g,A⟩=>by
  obtain⟨T,hV,hR⟩:=S.left h2 (DN.ch_at hk1 hk2) hk2 A.dg A.mn A.mz (by omega) hdp2 (by omega) he;have hm:m≠0:=(by have:=T.n1;omega);have hd:=A.dc;rw[if_neg hm]at hd;exact⟨h1,hb,⟨g,m,_,_,hd,T,A.ml.resolve_left hm,by omega,by omega,hV⟩⟩
end
theorem shiftL_any (xh K:Nat)(w:World)(b:Nat)(f:Nat→Nat)(nd:Nat)(dp:Int)(tr:Bool)(e:Int)(k:Nat)(D:Dc w b f nd dp tr)(L:Lc w b)(S:DN.SS xh (DN.GG K) f nd dp tr e)(h2:xh<18014398509481984*DN.HH K)(hk1:1≤k)(hk2:k≤60)(hdp : -1000≤dp)(hdp2:dp≤700)(hj:e≤DN.jj K)(he : -1200≤e-k) :
  Calls prog 213 #[.pointer (some ⟨b,0,none⟩),.int .i64 (k:Int)] w fun r w'=>r=.returned (.tuple #[])∧Below b w w'∧ShV xh K w' b dp (dp+19) (e-k) (DN.SV (DN.dvf f nd) (dp-nd) e):=by
 have HC:=hd (left_ss k D L S h2 hk1 hk2 hdp hdp2 hj he);have c800:=D.cnd;have hn:=S.n1;have t0:((nd:Int)==0)=false:=(by rw[bf];omega);have hkI:(0:Int)<(k:Int):=(by omega);have hk60:¬ (60:Int)<(k:Int):=(by omega);clear D L S h2 hn hj he;go_enter func213,ntmps213;go_wp2_with fail
 go_loopw [1] (fun x wr=>x=.int .i64 (k:Int)∧wr=w) (fun _ _=>0)
 case atStart=>exact⟨rfl,rfl⟩
 case round=>
  obtain⟨rfl,rfl⟩:=hrel;go_wp2_with fail
  refine HC.o.mono ?_;rintro r w' ⟨rfl,hb,hA⟩;have HB:=hd hb;have HA:=hd hA;clear hb hA;go_wp2_with fail
  go_end0
  exact⟨rfl,HB.o,HA.o⟩
theorem shiftR_any (xh K:Nat)(w:World)(b:Nat)(f:Nat→Nat)(nd:Nat)(dp:Int)(tr:Bool)(e:Int)(k:Nat)(D:Dc w b f nd dp tr)(S:DN.SS xh (DN.GG K) f nd dp tr e)(h2:xh<18014398509481984*DN.HH K)(hk1:1≤k)(hk2:k≤120)(hdp : -900≤dp)(hdp2:dp≤700)(hj:e+k≤DN.jj K)(he : -1200≤e) :
  Calls prog 213 #[.pointer (some ⟨b,0,none⟩),.int .i64 (-(k:Int))] w fun r w'=>r=.returned (.tuple #[])∧Below b w w'∧ShA xh K w' b (dp-38) dp (e+k):=by
 have c800:=D.cnd;have hn:=S.n1;have t0:((nd:Int)==0)=false:=(by rw[bf];omega);have hkI:¬ (0:Int) < -(k:Int):=(by omega);have hkI2 : -(k:Int)<0:=(by omega);have HS:Hd (∃g m dq tq,Dc w b g m dq tq∧DN.SS xh (DN.GG K) g m dq tq e∧dp≤dq∧dq≤dp):=hd ⟨f,nd,dp,tr,D,S,Int.le_refl _,Int.le_refl _⟩;have H2:=hd h2;have HJ:=hd hj;have HE:=hd he;clear D S h2 hn hj he;go_enter func213,ntmps213;go_wp2_with fail
 go_loopw [1] (fun x wr=>∃q:Nat,1≤q∧q≤k∧x=.int .i64 (-(q:Int))∧Hd (q=k∨q≤60)∧Hd (Below b w wr)∧Hd (∃g m dq tq,Dc wr b g m dq tq∧DN.SS xh (DN.GG K) g m dq tq (e+(k-q:Nat))∧(dp-(if q=k then 0 else 19))≤dq∧dq≤dp)) (fun x _=>(-(intOf x)).toNat)
 case atStart=>exact⟨k,hk1,Nat.le_refl _,rfl,hd (.inl rfl),hd (Below.refl _ _),hd (by
  obtain⟨g,m,dq,tq,h1,h2,h3,h4⟩:=HS.o;exact⟨g,m,dq,tq,h1,by rw[Nat.sub_self];simpa using h2,by rw[if_pos rfl];omega,h4⟩)⟩
 case round=>
  clear HS c800 t0 hkI hkI2;obtain⟨q,hq1,hq2,rfl,HQ,HB,HS⟩:=hrel;obtain⟨g,m,dq,tq,h1,h2,h3,h4⟩:=HS.o;have HD:=hd h1;have HSS:=hd h2;have H3:=hd h3;have H4:=hd h4;clear h1 h2 h3 h4 HS;by_cases h60:60<q
  ·have hlt : -(q:Int) < -60:=by omega
   have HQK:Hd (q=k):=hd (by have:=HQ.o;omega);have HC:=hd (right_ss 60 HD.o HSS.o H2.o (by decide) (by decide) (by have:=H3.o;rw[if_pos HQK.o]at this;omega) (by have:=H4.o;omega) (by have:=HJ.o;omega) (by have:=HE.o;omega));go_wp2_with fail
   refine HC.o.mono ?_;rintro r w' ⟨rfl,hb,hA⟩;have HB2:=hd (HB.o.trans hb);have HA:=hd hA;clear hb hA;go_wp2;go_roundw
   case rel=>
    obtain⟨g',m',d',t',x1,x2,x3,x4,x5⟩:=HA.o.ex;refine⟨q-60,by omega,by omega,by rw[show ((q-60:Nat):Int)=(q:Int)-60 by omega];exact congrArg _ (by omega),hd (.inr (by have:=HQK.o;omega)),HB2,hd ⟨g',m',d',t',x1,?_,?_,?_⟩⟩
    ·have e1:e+((k-q:Nat):Int)+((60:Nat):Int)=e+((k-(q-60):Nat):Int):=by omega
     rw[←e1];exact x2
    ·have:=H3.o
     have h7:=HQK.o;rw[if_pos h7]at this;rw[if_neg (by omega)];omega
    ·have:=H4.o;omega
   case measure=>simp[intOf];omega
  ·have hlt:¬ -(q:Int) < -60:=by omega
   have hng : -(-(q:Int))=(q:Int):=(by omega);have HC:=hd (right_ss q HD.o HSS.o H2.o hq1 (by omega) (by have:=H3.o;split at this<;>omega) (by have:=H4.o;omega) (by have:=HJ.o;omega) (by have:=HE.o;omega));go_wp2_with fail
   refine HC.o.mono ?_;rintro r w' ⟨rfl,hb,hA⟩;have HB2:=hd (HB.o.trans hb);have HA:=hd hA;clear hb hA;go_wp2_with fail
   go_end0
   refine⟨rfl,HB2.o,?_⟩;obtain⟨g',m',d',t',x1,x2,x3,x4,x5⟩:=HA.o.ex;refine⟨g',m',d',t',x1,?_,x3,?_,?_⟩
   ·have e1:e+((k-q:Nat):Int)+(q:Int)=e+(k:Int):=by omega
    rw[←e1];exact x2
   ·have:=H3.o;split at this<;>omega
   ·have:=H4.o;omega
theorem sru_any (w:World)(b:Nat)(f:Nat→Nat)(nd:Nat)(dp:Int)(tr:Bool)(D:Dc w b f nd dp tr)(hnd:nd≤800)(hok:DN.Ok f nd)(hdp : -2000≤dp)(hdp2:dp≤2000) :
  Calls prog 220 #[.pointer (some ⟨b,0,none⟩),.int .i64 dp] w fun r w'=>r=.returned (.bool (DN.upB f nd dp tr))∧w=w':=by
 have c800:=D.cnd;have c803:=D.ctr;by_cases h0:dp<0
 ·have hu:DN.upB f nd dp tr=false:=by unfold DN.upB;rw[decide_eq_false (by omega),Bool.false_and]
  have HU:=hd hu;clear hu D;go_enter func220,ntmps220;go_wp2;go_ret;exact⟨ret_bool_eq HU.o.symm,rfl⟩
 ·obtain⟨r,rfl⟩:∃r:Nat,dp=(r:Int):=⟨dp.toNat,by omega⟩
  have h0':¬ ((r:Int)<0):=h0;by_cases h1:nd≤r
  ·have hu:DN.upB f nd (r:Int) tr=false:=by unfold DN.upB;rw[decide_eq_false (by omega),Bool.false_and]
   have HU:=hd hu;have h1I:(nd:Int)≤(r:Int):=(by omega);clear hu D;go_enter func220,ntmps220;go_wp2;go_ret;exact⟨ret_bool_eq HU.o.symm,rfl⟩
  ·have h1I:¬ (nd:Int)≤(r:Int):=by omega
   have cr:=D.dig r (by omega);have hr8:r<800:=(by omega);obtain⟨hf1,hf2⟩:=hok r (by omega);by_cases h5:f r=53
   ·have t5:((f r:Int)==53)=true:=by rw[h5];rfl
    by_cases hl:r+1=nd
    ·have tl:((r:Int)+1==(nd:Int))=true:=by rw[beq_iff_eq];omega
     have hu:DN.upB f nd (r:Int) tr=(tr ||(decide (0<(r:Int)) && decide (f (r-1)%2=1))):=by
      unfold DN.upB;rw[decide_eq_true (by omega),Bool.true_and,Int.toNat_natCast,if_pos ⟨h5,by omega⟩]
     cases tr with
     |true=>
      have HU:Hd (DN.upB f nd (r:Int) true=true):=hd hu;clear hu D h5 hl;go_enter func220,ntmps220;go_wp2;go_ret;exact⟨ret_bool_eq HU.o.symm,rfl⟩
     |false=>
      rw[Bool.false_or]at hu;by_cases hr0:r=0
      ·subst hr0
       have HU:Hd (DN.upB f nd ((0:Nat):Int) false=false):=hd (by rw[hu];rfl);clear hu D h5 hl;go_enter func220,ntmps220;go_wp2;go_ret;exact⟨ret_bool_eq HU.o.symm,rfl⟩
      ·obtain⟨q,rfl⟩:∃q,r=q+1:=⟨r-1,by omega⟩
       have cq:=D.dig q (by omega);have hq8:q<800:=(by omega);obtain⟨hq1,hq2⟩:=hok q (by omega);have eq1:((q+1:Nat):Int)-1=(q:Int):=(by omega);have hr0I:(0:Int)<((q+1:Nat):Int):=(by omega);rw[decide_eq_true hr0I,Bool.true_and,Nat.add_sub_cancel]at hu;have m2:(((f q:Int)-48)%2!=0)=decide (f q%2=1):=by
        rcases Nat.mod_two_eq_zero_or_one (f q) with z|z
        ·rw[decide_eq_false (by omega),bne_eq_false_iff_eq];omega
        ·rw[decide_eq_true z,bne_iff_ne];omega
       have HU:=hd hu;clear hu D h5 hl hr0;generalize f q=y at *;by_cases hp:y%2=1
       ·have m3:(((y:Int)-48)%2!=0)=true:=by rw[m2];exact decide_eq_true hp
        have HU2:Hd (DN.upB f nd ((q+1:Nat):Int) false=true):=hd (by rw[HU.o];exact decide_eq_true hp);clear m2 HU hp;go_enter func220,ntmps220;go_wp2;go_ret;exact⟨ret_bool_eq HU2.o.symm,rfl⟩
       ·have m3:(((y:Int)-48)%2!=0)=false:=by rw[m2];exact decide_eq_false hp
        have HU2:Hd (DN.upB f nd ((q+1:Nat):Int) false=false):=hd (by rw[HU.o];exact decide_eq_false hp);clear m2 HU hp;go_enter func220,ntmps220;go_wp2;go_ret;exact⟨ret_bool_eq HU2.o.symm,rfl⟩
    ·have tl:((r:Int)+1==(nd:Int))=false:=by rw[bf];omega
     have HU:Hd (DN.upB f nd (r:Int) tr=true):=hd (by
      unfold DN.upB;rw[decide_eq_true (by omega),Bool.true_and,Int.toNat_natCast,if_neg (by omega),decide_eq_true (by omega)])
     have t53:(53:Int)≤(f r:Int):=(by omega);clear D h5 hl;go_enter func220,ntmps220;go_wp2;go_ret;exact⟨ret_bool_eq HU.o.symm,rfl⟩
   ·have t5:((f r:Int)==53)=false:=by rw[bf];omega
    have hu:DN.upB f nd (r:Int) tr=decide (53≤f r):=by
     unfold DN.upB;rw[decide_eq_true (by omega),Bool.true_and,Int.toNat_natCast,if_neg (by omega)]
    by_cases h53:53≤f r
    ·have HU:Hd (DN.upB f nd (r:Int) tr=true):=hd (by rw[hu];exact decide_eq_true h53)
     have t53:(53:Int)≤(f r:Int):=(by omega);clear D h5 hu h53;go_enter func220,ntmps220;go_wp2;go_ret;exact⟨ret_bool_eq HU.o.symm,rfl⟩
    ·have HU:Hd (DN.upB f nd (r:Int) tr=false):=hd (by rw[hu];exact decide_eq_false h53)
     have t53:¬ (53:Int)≤(f r:Int):=(by omega);clear D h5 hu h53;go_enter func220,ntmps220;go_wp2;go_ret;exact⟨ret_bool_eq HU.o.symm,rfl⟩
end Go.Proofs.YtieknenhfeejiaaGreatDoor
namespace Go.Proofs.YtieknenhfeejiaaGreatDoor
open _root_.Go.Proofs.Tryz
open Go.RowKit
namespace DN
theorem pad_le_succ (f:Nat→Nat)(nd r:Nat):pad f nd r≤pad f nd (r+1):=by rw[pad_succ];omega
theorem pad_mono (f:Nat→Nat)(nd r:Nat):∀k,pad f nd r≤pad f nd (r+k)
 |0=>Nat.le_refl _
 |k+1=>Nat.le_trans (pad_mono f nd r k) (by rw[←Nat.add_assoc];exact pad_le_succ ..)
end DN
theorem rint_any (w:World)(b:Nat)(f:Nat→Nat)(nd:Nat)(dp:Int)(tr:Bool)(D:Dc w b f nd dp tr)(hnd:nd≤800)(hok:DN.Ok f nd)(hdp : -2000≤dp)(hdp2:dp≤20)(hb:DN.pad f nd dp.toNat≤9007199254740992) :
  Calls prog 214 #[.pointer (some ⟨b,0,none⟩)] w fun r w'=>r=.returned (.int .u64 (DN.RI f nd dp tr:Int))∧w=w':=by
 have HC:=hd (sru_any w b f nd dp tr D hnd hok hdp (by omega));have HD:=hd D;have HOK:=hd hok;have c800:=D.cnd;have c801:=D.cdp;have HBD:=hd hb;obtain⟨R,hR⟩:∃R:Nat,R=dp.toNat:=⟨_,rfl⟩
 have HR:=hd hR;have h20:¬ (20:Int)<dp:=(by omega);clear D hok hb hR;go_enter func214,ntmps214;go_wp2_with fail
 go_loop [3,4] (fun xi xn=>∃i n:Nat,i≤nd∧xi=.int .i64 (i:Int)∧xn=.int .u64 (n:Int)∧Hd (i≤R)∧Hd (n=DN.pad f nd i)) (fun xi xn=>nd-(intOf xi).toNat)
 case atStart=>exact⟨0,0,Nat.zero_le _,rfl,rfl,hd (Nat.zero_le _),hd (by rw[DN.pad_le (Nat.zero_le _)];rfl)⟩
 case round=>
  obtain⟨i,n,hi,rfl,rfl,HI,HN⟩:=hrel;by_cases hlt:(i:Int)<dp∧i<nd
  ·obtain⟨hlt1,hlt2⟩:=hlt
   have hlt3:(i:Int)<(nd:Int):=(by omega);have ci:=HD.o.dig i (by omega);have hi8:i<800:=(by omega);obtain⟨hf1,hf2⟩:=HOK.o i hlt2;have HN2:Hd (n*10+(f i-48)=DN.pad f nd (i+1)):=hd (by
    rw[DN.pad_succ,←HN.o];unfold DN.dgt;rw[if_pos hlt2];omega)
   have hle:n*10+(f i-48)≤9007199254740992:=by
    rw[HN2.o];have h1:=DN.pad_mono f nd (i+1) (R-(i+1));have h2:=HBD.o;rw[←HR.o]at h2;have h3:=HR.o;rw[show i+1+(R-(i+1))=R by omega]at h1;omega
   have HI2:Hd (i+1≤R):=hd (by have:=HR.o;omega);have w1:IntKind.u64.wrap ((n:Int)*10)=((n*10:Nat):Int):=(by rw[IntKind.wrap_u64];omega);have w2:IntKind.u64.wrap (((n*10:Nat):Int)+((f i:Int)-48))=((n*10+(f i-48):Nat):Int):=(by rw[IntKind.wrap_u64];omega);generalize n*10+(f i-48)=z at *;generalize n*10=x at *;clear HN hle;go_wp2
   go_round
   case rel=>exact⟨i+1,z,by omega,by go_num,by go_num,HI2,HN2⟩
   case measure=>simp[intOf];omega
  ·have HST:Hd (nd≤i∨R≤i):=hd (by have:=HR.o;omega)
   have hst:(¬ (i:Int)<dp)∨((i:Int)<dp∧¬ (i:Int)<(nd:Int)):=(by omega);have HIR:=hd (And.intro HI.o HST.o);clear hlt HST;have HX:∃c:Nat,c=i:=⟨i,rfl⟩
   rcases hst with hs1|⟨hs1,hs2⟩
   all_goals
    go_wp2_with fail
    go_loop [3,4] (fun xi xn=>∃i n:Nat,i≤100000∧xi=.int .i64 (i:Int)∧xn=.int .u64 (n:Int)∧Hd (i≤R∧(nd≤i∨R≤i))∧Hd (n=DN.pad f nd i)) (fun xi xn=>R-(intOf xi).toNat)
    case atStart=>exact⟨i,n,by omega,rfl,rfl,HIR,HN⟩
    case round=>
     clear HIR HN HI HX;obtain⟨i,n,hi',rfl,rfl,HI,HN⟩:=hrel;by_cases hlt:(i:Int)<dp
     ·have HN2:Hd (n*10=DN.pad f nd (i+1)):=hd (by
       have h1:=HI.o;have h2:=HR.o;rw[DN.pad_succ,←HN.o];unfold DN.dgt;rw[if_neg (by omega)];omega)
      have hle:n*10≤9007199254740992:=by
       rw[HN2.o];have h1:=DN.pad_mono f nd (i+1) (R-(i+1));have h2:=HBD.o;rw[←HR.o]at h2;have h3:=HR.o;rw[show i+1+(R-(i+1))=R by omega]at h1;omega
      have HI2:Hd (i+1≤R∧(nd≤i+1∨R≤i+1)):=hd (by have:=HR.o;have:=HI.o;omega);have HM:Hd (i<R):=hd (by have:=HR.o;omega);have w1:IntKind.u64.wrap ((n:Int)*10)=((n*10:Nat):Int):=(by rw[IntKind.wrap_u64];omega);have hib:i+1≤100000:=(by have:=HR.o;omega);generalize n*10=x at *;clear HN hle HI;go_wp2
      go_round
      case rel=>exact⟨i+1,x,hib,by go_num,by go_num,HI2,HN2⟩
      case measure=>have:=HM.o;simp[intOf];omega
     ·have HE:Hd (n=DN.pad f nd R):=hd (by
       have h1:=HI.o;have h2:=HR.o;rw[HN.o];congr 1;omega)
      have HRI:Hd (DN.RI f nd dp tr=n+if DN.upB f nd dp tr then 1 else 0):=hd (by
       unfold DN.RI;rw[HE.o,HR.o])
      have hnb:n≤9007199254740992:=(by rw[HE.o,HR.o];exact HBD.o);clear HN HI HE;go_wp2_with fail
      refine HC.o.mono ?_;rintro r w' ⟨rfl,rfl⟩;cases hu:DN.upB f nd dp tr with
      |true=>
       have w1:IntKind.u64.wrap ((n:Int)+1)=((n+1:Nat):Int):=(by rw[IntKind.wrap_u64];omega);have HRI2:Hd (DN.RI f nd dp tr=n+1):=hd (by rw[HRI.o,hu];rfl);clear hu HRI hnb;go_wp2_with fail
       go_ret;exact⟨ret_int (by rw[HRI2.o];first|done|rfl|omega),rfl⟩
      |false=>
       have HRI2:Hd (DN.RI f nd dp tr=n):=hd (by rw[HRI.o,hu];rfl);clear hu HRI hnb;go_wp2_with fail
       go_ret;exact⟨ret_int (by rw[HRI2.o];first|done|rfl|omega),rfl⟩
end Go.Proofs.YtieknenhfeejiaaGreatDoor
