/- span.unitAt, saturated, measure, Prefix, Parse. span.saturated, measure, Pref .. -/
import Derived.Test.YtieknenhfeejiaaGreatDoorSpM
import Derived.Test.YtieknenhfeejiaaGreatDoorBQuiet
import Derived.Deep.RegionWith
import Derived.OwnWalk
set_option maxHeartbeats 2000000
set_option linter.unusedVariables false
set_option linter.unusedSimpArgs false
namespace Go.Proofs.YtieknenhfeejiaaGreatDoor
open _root_.Go.Proofs.Tryz
open Go.RowKit
namespace SP
theorem ix_inj {a b:Nat}(h:ix a=ix b)(h6:ix a<6):a=b:=by
 unfold ix at h h6
 repeat' split at h
 all_goals first|omega|(simp_all;done)|(exfalso;simp_all;omega)
theorem un_ms {c:UInt8}{r:List UInt8}(h:c.toNat=109)(h2:h115 r=true):un (c::r)=(6,2):=by rw[un_cons,if_pos ⟨h,h2⟩]
theorem un_one {c:UInt8}{r:List UInt8}{k:Nat}(h:¬ (c.toNat=109∧h115 r=true))(h2:ix c.toNat=k)(hk:k<6):un (c::r)=(k,1):=by
 rw[un_cons,if_neg h,if_neg (by omega),h2]
theorem un_none {c:UInt8}{r:List UInt8}(h:¬ (c.toNat=109∧h115 r=true))(h2:∀k,k<6→ix c.toNat≠k):un (c::r)=(7,0):=by
 rw[un_cons,if_neg h,if_pos];rcases ix_lt c.toNat with e|e
 ·exact e
 ·exact absurd rfl (h2 _ e)
end SP
theorem spnm_any (u:Nat)(hu:u<6):∃s:ByteArray,(∀w:World,Calls prog 174 #[.int .i64 u] w fun e w'=>e=.returned (.string s)∧w'=w)∧∃h:0<s.size,SP.ix (s[0]'h).toNat=u:=by
 match u,hu with
 |0,_=>exact⟨⟨#[121]⟩,fun w=>by(go_enter func174,ntmps174;go_wp2;go_ret;exact⟨rfl,rfl⟩),by decide,by decide⟩
 |1,_=>exact⟨⟨#[119]⟩,fun w=>by(go_enter func174,ntmps174;go_wp2;go_ret;exact⟨rfl,rfl⟩),by decide,by decide⟩
 |2,_=>exact⟨⟨#[100]⟩,fun w=>by(go_enter func174,ntmps174;go_wp2;go_ret;exact⟨rfl,rfl⟩),by decide,by decide⟩
 |3,_=>exact⟨⟨#[104]⟩,fun w=>by(go_enter func174,ntmps174;go_wp2;go_ret;exact⟨rfl,rfl⟩),by decide,by decide⟩
 |4,_=>exact⟨⟨#[109]⟩,fun w=>by(go_enter func174,ntmps174;go_wp2;go_ret;exact⟨rfl,rfl⟩),by decide,by decide⟩
 |5,_=>exact⟨⟨#[115]⟩,fun w=>by(go_enter func174,ntmps174;go_wp2;go_ret;exact⟨rfl,rfl⟩),by decide,by decide⟩
theorem spunit_any (s:ByteArray)(i:Nat)(w:World)(hs:s.size≤1125899906842624)(hie:i≤s.size) :
  Calls prog 162 #[.string s,.int .i64 i] w fun e w'=>e=.returned (.tuple #[.int .i64 ((SP.un (s.data.toList.drop i)).1:Nat),.int .i64 ((i+(SP.un (s.data.toList.drop i)).2:Nat):Int)])∧Below w.heap.size w w':=by
 by_cases hi:i<s.size
 ·have HDR:=hd (data_drop' s i hi)
  have hc:(s[i]'hi).toNat<256:=(s[i]'hi).toNat_lt;have hle:¬ (s.size:Int)≤(i:Int):=(by omega);by_cases c1:(s[i]'hi).toNat=109
  ·have t1:(((s[i]'hi).toNat:Int)==109)=true:=by rw[c1];rfl
   by_cases c2:i+1<s.size
   ·have c2i:(i:Int)+1<(s.size:Int):=by omega
    have hc2:(s[i+1]'c2).toNat<256:=(s[i+1]'c2).toNat_lt;by_cases c3:(s[i+1]'c2).toNat=115
    ·have t2:(((s[i+1]'c2).toNat:Int)==115)=true:=by rw[c3];rfl
     have P1:Hd (SP.un (s.data.toList.drop i)=(6,2)):=hd (by rw[HDR.o];exact SP.un_ms c1 (by rw[data_drop' s (i+1) c2];simp[SP.h115];omega));clear HDR;go_enter func162,ntmps162;go_wp2
     all_goals first
      |(go_ret2;exact⟨by rw[P1.o];rfl,by first|exact Below.refl _ _|exact HB.o|exact HB.o.drew⟩)
      |(exfalso;rename_i hx;exact hx trivial)
    ·have t2:(((s[i+1]'c2).toNat:Int)==115)=false:=by rw[bf];omega
     have HN:Hd (¬ ((s[i]'hi).toNat=109∧SP.h115 (s.data.toList.drop (i+1))=true)):=hd (by rintro⟨_,h⟩;rw[data_drop' s (i+1) c2]at h;simp[SP.h115]at h;omega);have ONE:Hd (∀k,k<6→SP.ix (s[i]'hi).toNat=k→SP.un (s.data.toList.drop i)=(k,1)):=hd fun k hk h=>by rw[HDR.o];exact SP.un_one HN.o h hk
     have NONE:Hd ((∀k,k<6→SP.ix (s[i]'hi).toNat≠k)→SP.un (s.data.toList.drop i)=(7,0)):=hd fun h=>by rw[HDR.o];exact SP.un_none HN.o h
     clear HDR HN;go_enter func162,ntmps162;go_wp2;go_loopw [6] (fun x wr=>∃u:Nat,u≤6∧x=.int .i64 u∧Hd (∀k,k<u→SP.ix (s[i]'hi).toNat≠k)∧Hd (Below w.heap.size w wr)) (fun x _=>6-(intOf x).toNat)
     case atStart=>exact⟨0,Nat.zero_le _,rfl,hd (fun k h=>absurd h (Nat.not_lt_zero k)),hd (Below.refl _ _)⟩
     case round=>
      obtain⟨u,hu,rfl,HU,HB⟩:=hrel;by_cases hlt:u<6
      ·have hltI:(u:Int)<6:=by omega
       by_cases he:SP.ix (s[i]'hi).toNat=u
       ·have P1:=hd (ONE.o u hlt he)
        obtain⟨z,C,hz,hzu⟩:=spnm_any u hlt;have tz:(((z[0]'hz).toNat:Int)==((s[i]'hi).toNat:Int))=true:=by(rw[beq_iff_eq];have:=SP.ix_inj (hzu.trans he.symm) (by omega);omega)
        have tz9:(((z[0]'hz).toNat:Int)==109)=true:=(by have:=tz;rw[c1]at this;exact this);have hz1:(0:Int)<(z.size:Int):=(by omega);clear hzu;go_wp2
        go_region_with (go_at_call 174;refine(C _).mono ?_;rintro e w' ⟨rfl,hw⟩;subst hw)
        go_wp2
        all_goals first
         |(go_ret2;exact⟨by rw[P1.o];rfl,by first|exact Below.refl _ _|exact HB.o|exact HB.o.drew⟩)
         |(exfalso;rename_i hx;exact hx trivial)
         |(exfalso;rename_i hx;revert hx;trace_state;simp[tz])
       ·have NX:Hd (∀k,k<u+1→SP.ix (s[i]'hi).toNat≠k):=hd fun k hk=>by
         by_cases h:k<u
         ·exact HU.o k h
         ·obtain rfl:k=u:=by omega
          exact he
        obtain⟨z,C,hz,hzu⟩:=spnm_any u hlt;have tz:(((z[0]'hz).toNat:Int)==((s[i]'hi).toNat:Int))=false:=by(rw[bf];intro e;apply he;rw[←hzu];congr 1;omega)
        have tz9:(((z[0]'hz).toNat:Int)==109)=false:=(by have:=tz;rw[c1]at this;exact this);have hz1:(0:Int)<(z.size:Int):=(by omega);clear hzu;go_wp2
        go_region_with (go_at_call 174;refine(C _).mono ?_;rintro e w' ⟨rfl,hw⟩;subst hw)
        go_wp2
        all_goals first
         |(go_roundw
           case rel=>exact⟨u+1,by omega,by go_num,NX,hd HB.o.drew⟩
           case measure=>simp[intOf];omega)
         |(exfalso;rename_i hx;exact hx trivial)
      ·obtain rfl:u=6:=by omega
       have P1:=hd (NONE.o (fun k hk=>HU.o k hk));go_wp2
       all_goals first
        |(go_ret2;exact⟨by rw[P1.o];rfl,by first|exact Below.refl _ _|exact HB.o|exact HB.o.drew⟩)
        |(exfalso;rename_i hx;exact hx trivial)
   ·have c2i:¬ (i:Int)+1<(s.size:Int):=by omega
    have HN:Hd (¬ ((s[i]'hi).toNat=109∧SP.h115 (s.data.toList.drop (i+1))=true)):=hd (by rintro⟨_,h⟩;rw[List.drop_eq_nil_of_le (by rw[←Lib.size_eq];omega)]at h;exact absurd h (by decide));have ONE:Hd (∀k,k<6→SP.ix (s[i]'hi).toNat=k→SP.un (s.data.toList.drop i)=(k,1)):=hd fun k hk h=>by rw[HDR.o];exact SP.un_one HN.o h hk
    have NONE:Hd ((∀k,k<6→SP.ix (s[i]'hi).toNat≠k)→SP.un (s.data.toList.drop i)=(7,0)):=hd fun h=>by rw[HDR.o];exact SP.un_none HN.o h
    clear HDR HN;go_enter func162,ntmps162;go_wp2;go_loopw [6] (fun x wr=>∃u:Nat,u≤6∧x=.int .i64 u∧Hd (∀k,k<u→SP.ix (s[i]'hi).toNat≠k)∧Hd (Below w.heap.size w wr)) (fun x _=>6-(intOf x).toNat)
    case atStart=>exact⟨0,Nat.zero_le _,rfl,hd (fun k h=>absurd h (Nat.not_lt_zero k)),hd (Below.refl _ _)⟩
    case round=>
     obtain⟨u,hu,rfl,HU,HB⟩:=hrel;by_cases hlt:u<6
     ·have hltI:(u:Int)<6:=by omega
      by_cases he:SP.ix (s[i]'hi).toNat=u
      ·have P1:=hd (ONE.o u hlt he)
       obtain⟨z,C,hz,hzu⟩:=spnm_any u hlt;have tz:(((z[0]'hz).toNat:Int)==((s[i]'hi).toNat:Int))=true:=by(rw[beq_iff_eq];have:=SP.ix_inj (hzu.trans he.symm) (by omega);omega)
       have tz9:(((z[0]'hz).toNat:Int)==109)=true:=(by have:=tz;rw[c1]at this;exact this);have hz1:(0:Int)<(z.size:Int):=(by omega);clear hzu;go_wp2
       go_region_with (go_at_call 174;refine(C _).mono ?_;rintro e w' ⟨rfl,hw⟩;subst hw)
       go_wp2
       all_goals first
        |(go_ret2;exact⟨by rw[P1.o];rfl,by first|exact Below.refl _ _|exact HB.o|exact HB.o.drew⟩)
        |(exfalso;rename_i hx;exact hx trivial)
      ·have NX:Hd (∀k,k<u+1→SP.ix (s[i]'hi).toNat≠k):=hd fun k hk=>by
        by_cases h:k<u
        ·exact HU.o k h
        ·obtain rfl:k=u:=by omega
         exact he
       obtain⟨z,C,hz,hzu⟩:=spnm_any u hlt;have tz:(((z[0]'hz).toNat:Int)==((s[i]'hi).toNat:Int))=false:=by(rw[bf];intro e;apply he;rw[←hzu];congr 1;omega)
       have tz9:(((z[0]'hz).toNat:Int)==109)=false:=(by have:=tz;rw[c1]at this;exact this);have hz1:(0:Int)<(z.size:Int):=(by omega);clear hzu;go_wp2
       go_region_with (go_at_call 174;refine(C _).mono ?_;rintro e w' ⟨rfl,hw⟩;subst hw)
       go_wp2
       all_goals first
        |(go_roundw
          case rel=>exact⟨u+1,by omega,by go_num,NX,hd HB.o.drew⟩
          case measure=>simp[intOf];omega)
        |(exfalso;rename_i hx;exact hx trivial)
     ·obtain rfl:u=6:=by omega
      have P1:=hd (NONE.o (fun k hk=>HU.o k hk));go_wp2
      all_goals first
       |(go_ret2;exact⟨by rw[P1.o];rfl,by first|exact Below.refl _ _|exact HB.o|exact HB.o.drew⟩)
       |(exfalso;rename_i hx;exact hx trivial)
  ·have t1:(((s[i]'hi).toNat:Int)==109)=false:=by rw[bf];omega
   have HN:Hd (¬ ((s[i]'hi).toNat=109∧SP.h115 (s.data.toList.drop (i+1))=true)):=hd (fun h=>c1 h.1);have ONE:Hd (∀k,k<6→SP.ix (s[i]'hi).toNat=k→SP.un (s.data.toList.drop i)=(k,1)):=hd fun k hk h=>by rw[HDR.o];exact SP.un_one HN.o h hk
   have NONE:Hd ((∀k,k<6→SP.ix (s[i]'hi).toNat≠k)→SP.un (s.data.toList.drop i)=(7,0)):=hd fun h=>by rw[HDR.o];exact SP.un_none HN.o h
   clear HDR HN;go_enter func162,ntmps162;go_wp2;go_loopw [6] (fun x wr=>∃u:Nat,u≤6∧x=.int .i64 u∧Hd (∀k,k<u→SP.ix (s[i]'hi).toNat≠k)∧Hd (Below w.heap.size w wr)) (fun x _=>6-(intOf x).toNat)
   case atStart=>exact⟨0,Nat.zero_le _,rfl,hd (fun k h=>absurd h (Nat.not_lt_zero k)),hd (Below.refl _ _)⟩
   case round=>
    obtain⟨u,hu,rfl,HU,HB⟩:=hrel;by_cases hlt:u<6
    ·have hltI:(u:Int)<6:=by omega
     by_cases he:SP.ix (s[i]'hi).toNat=u
     ·have P1:=hd (ONE.o u hlt he)
      obtain⟨z,C,hz,hzu⟩:=spnm_any u hlt;have tz:(((z[0]'hz).toNat:Int)==((s[i]'hi).toNat:Int))=true:=by(rw[beq_iff_eq];have:=SP.ix_inj (hzu.trans he.symm) (by omega);omega)
      have hz1:(0:Int)<(z.size:Int):=(by omega);clear hzu;go_wp2
      go_region_with (go_at_call 174;refine(C _).mono ?_;rintro e w' ⟨rfl,hw⟩;subst hw)
      go_wp2
      all_goals first
       |(go_ret2;exact⟨by rw[P1.o];rfl,by first|exact Below.refl _ _|exact HB.o|exact HB.o.drew⟩)
       |(exfalso;rename_i hx;exact hx trivial)
     ·have NX:Hd (∀k,k<u+1→SP.ix (s[i]'hi).toNat≠k):=hd fun k hk=>by
       by_cases h:k<u
       ·exact HU.o k h
       ·obtain rfl:k=u:=by omega
        exact he
      obtain⟨z,C,hz,hzu⟩:=spnm_any u hlt;have tz:(((z[0]'hz).toNat:Int)==((s[i]'hi).toNat:Int))=false:=by(rw[bf];intro e;apply he;rw[←hzu];congr 1;omega)
      have hz1:(0:Int)<(z.size:Int):=(by omega);clear hzu;go_wp2
      go_region_with (go_at_call 174;refine(C _).mono ?_;rintro e w' ⟨rfl,hw⟩;subst hw)
      go_wp2
      all_goals first
       |(go_roundw
         case rel=>exact⟨u+1,by omega,by go_num,NX,hd HB.o.drew⟩
         case measure=>simp[intOf];omega)
       |(exfalso;rename_i hx;exact hx trivial)
    ·obtain rfl:u=6:=by omega
     have P1:=hd (NONE.o (fun k hk=>HU.o k hk));go_wp2
     all_goals first
      |(go_ret2;exact⟨by rw[P1.o];rfl,by first|exact Below.refl _ _|exact HB.o|exact HB.o.drew⟩)
      |(exfalso;rename_i hx;exact hx trivial)
 ·have P1:Hd (SP.un (s.data.toList.drop i)=(7,0)):=hd (by rw[List.drop_eq_nil_of_le (by rw[←Lib.size_eq];omega)];rfl)
  have hle:(s.size:Int)≤(i:Int):=(by omega);go_enter func162,ntmps162;go_wp2
  all_goals first
   |(go_ret2;exact⟨by rw[P1.o];rfl,by first|exact Below.refl _ _|exact HB.o|exact HB.o.drew⟩)
   |(exfalso;rename_i hx;exact hx trivial)
theorem spsat_any (s:ByteArray)(w:World)(hs:s.size≤1125899906842624)(hdg:∀c∈s.data.toList,PN.dg c.toNat=true) :
  Calls prog 163 #[.string s] w fun e w'=>e=.returned (.int .i64 ((min (SP.dv s.data.toList) SP.MD1:Nat):Int))∧w=w':=by
 have HD:=hd hdg;clear hdg;go_enter func163,ntmps163;go_wp2
 go_loop [3,4] (fun y x=>∃k n:Nat,k≤s.size∧x=.int .i64 k∧y=.int .i64 n∧n≤315360000000001∧Hd (n=min (SP.dv (s.data.toList.take k)) SP.MD1)) (fun y x=>s.size-(intOf x).toNat)
 case atStart=>exact⟨0,0,Nat.zero_le _,rfl,rfl,by omega,hd rfl⟩
 case round=>
  obtain⟨k,n,hk,rfl,rfl,hn,HN⟩:=hrel;by_cases hlt:k<s.size
  ·have hkl:k<s.data.toList.length:=by rw[←Lib.size_eq];exact hlt
   have hc:=SP.dg_bd (HD.o (s.data.toList[k]'hkl) (List.getElem_mem hkl));have e1:(s.data.toList[k]'hkl)=s[k]'hlt:=rfl;have HS:=hd (SP.dv_step s.data.toList k hkl);rw[e1]at hc HS;clear e1;have HX:Hd (min (n*10+((s[k]'hlt).toNat-48)) 315360000000001=min (SP.dv (s.data.toList.take (k+1))) SP.MD1):=hd <|by
    have:=HS.o;have e3:SP.MD1=315360000000001:=rfl;have:=HN.o;omega
   clear HS HN;obtain⟨hc1,hc2⟩:=hc;by_cases hm:n*10+((s[k]'hlt).toNat-48)<315360000000001
   ·have hmI:(n:Int)*10+(((s[k]'hlt).toNat:Int)-48)<315360000000001:=by omega
    have HY:Hd (n*10+((s[k]'hlt).toNat-48)=min (SP.dv (s.data.toList.take (k+1))) SP.MD1):=hd (by have:=HX.o;omega);clear HX;go_wp2
    go_round
    case rel=>exact⟨k+1,n*10+((s[k]'hlt).toNat-48),by omega,by go_num,by go_num,by omega,HY⟩
    case measure=>simp[intOf];omega
   ·have hmI:¬ (n:Int)*10+(((s[k]'hlt).toNat:Int)-48)<315360000000001:=by omega
    have HY:Hd (315360000000001=min (SP.dv (s.data.toList.take (k+1))) SP.MD1):=hd (by have:=HX.o;omega);clear HX;go_wp2
    go_round
    case rel=>exact⟨k+1,315360000000001,by omega,by go_num,by go_num,by omega,HY⟩
    case measure=>simp[intOf];omega
  ·have e:s.data.toList.take k=s.data.toList:=List.take_of_length_le (by rw[←Lib.size_eq];omega)
   rw[e]at HN;go_wp2;go_ret;exact⟨ret_int (by have:=HN.o;omega),rfl⟩
theorem spmeas_any (s:ByteArray)(w:World)(hs:s.size≤1125899906842624) :
  Calls prog 145 #[.string s] w fun e w'=>e=.returned (.tuple #[.int .i64 ((SP.M s.data.toList 0).1:Nat),.int .i64 ((min (SP.M s.data.toList 0).2 SP.MD1:Nat):Int)])∧Below w.heap.size w w':=by
 go_enter func145,ntmps145;go_wp2;go_loopw [4,5,6] (fun x y z wr=>∃e sum nx:Nat,e≤s.size∧x=.int .i64 e∧y=.int .i64 sum∧sum≤315360000000001∧z=.int .i64 nx∧nx≤7∧Hd (SP.St s.data.toList e nx sum)∧Hd (Below w.heap.size w wr)) (fun x y z _=>8-(intOf z).toNat)
 case atStart=>exact⟨0,0,0,Nat.zero_le _,rfl,rfl,by omega,rfl,by omega,hd (SP.St.start _),hd (Below.refl _ _)⟩
 case round=>
  obtain⟨e,sum,nx,he,rfl,rfl,hsum,rfl,hnx,HS,HB⟩:=hrel;have HNL:=hd (PN.spn_le PN.dg (s.data.toList.drop e));obtain⟨n,HN⟩:∃n,Hd (PN.spn PN.dg (s.data.toList.drop e)=n):=⟨_,hd rfl⟩
  have hnl:e+n≤s.size:=(by have:=HNL.o;rw[HN.o,List.length_drop,←Lib.size_eq]at this;omega);clear HNL;obtain⟨u,k,HU⟩:∃u k,Hd (SP.un (s.data.toList.drop (e+n))=(u,k)):=⟨_,_,hd rfl⟩
  have hu:u≤7∧e+n+k≤s.size:=by
   have:=SP.un_cases (s.data.toList.drop (e+n));rw[HU.o,List.length_drop,←Lib.size_eq]at this;rcases this with h|⟨h,h2⟩|⟨v,h1,h2,h3⟩
   ·simp only[Prod.mk.injEq]at h;omega
   ·simp only[Prod.mk.injEq]at h;omega
   ·simp only[Prod.mk.injEq]at h2;omega
  obtain⟨hu7,huk⟩:=hu;have C1:=hd (fun W:World=>by have h:=sprun_any s e W hs he;rw[HN.o]at h;exact h);have C2:=hd (fun W:World=>by have h:=spunit_any s (e+n) W hs hnl;rw[HU.o]at h;exact h);by_cases h0:n=0∨u<nx∨u=7
  ·obtain⟨hE,hS⟩:=HS.o.stop HN.o (by rw[HU.o]) h0
   have HE:=hd hE;have HSS:=hd hS;clear hE hS;by_cases z1:n=0
   ·subst z1
    go_wp2_with (first
     |(go_at_call 161;refine(C1.o _).mono ?_;rintro e1 w1 ⟨rfl,rfl⟩)
     |(go_at_call 162;refine(C2.o _).mono ?_;rintro e2 w2 ⟨rfl,hb2⟩))
    go_ret2;exact⟨SP.ret_two (by have:=HE.o;omega) (by have:=HSS.o;omega),bel HB.o hb2⟩
   ·by_cases z2:u<nx
    ·have z2I:(u:Int)<(nx:Int):=by omega
     have z1I:((e:Int)+(n:Int)==(e:Int))=false:=by(rw[bf];omega)
     go_wp2_with (first
      |(go_at_call 161;refine(C1.o _).mono ?_;rintro e1 w1 ⟨rfl,rfl⟩)
      |(go_at_call 162;refine(C2.o _).mono ?_;rintro e2 w2 ⟨rfl,hb2⟩))
     go_ret2;exact⟨SP.ret_two (by have:=HE.o;omega) (by have:=HSS.o;omega),bel HB.o hb2⟩
    ·have z3:u=7:=by omega
     have z2I:¬ (u:Int)<(nx:Int):=(by omega);subst z3;have z1I:((e:Int)+(n:Int)==(e:Int))=false:=by(rw[bf];omega)
     go_wp2_with (first
      |(go_at_call 161;refine(C1.o _).mono ?_;rintro e1 w1 ⟨rfl,rfl⟩)
      |(go_at_call 162;refine(C2.o _).mono ?_;rintro e2 w2 ⟨rfl,hb2⟩))
     go_ret2;exact⟨SP.ret_two (by have:=HE.o;omega) (by have:=HSS.o;omega),bel HB.o hb2⟩
  ·have z1:n≠0:=fun h=>h0 (.inl h)
   have z2:nx≤u:=(by omega);have z3:u<7:=(by omega);have z2I:¬ (u:Int)<(nx:Int):=(by omega);have z3I:((u:Int)==7)=false:=by(rw[bf];omega)
   have z1I:((e:Int)+(n:Int)==(e:Int))=false:=by(rw[bf];omega)
   have HGO:=hd (fun s' hs'=>HS.o.go HN.o HU.o z1 z2 z3 s' hs');have hB8:∀b∈(s.extract e (e+n)).data.toList,PN.dg b.toNat=true:=fun b hb=>by
    rw[SP.ext_list]at hb;have h:=SP.spn_all PN.dg (s.data.toList.drop e);rw[HN.o]at h;exact h b hb
   have C3:=hd (fun W:World=>by have h:=spsat_any (s.extract e (e+n)) W (by rw[ByteArray.size_extract];omega) hB8;rw[SP.ext_list]at h;exact h);have C4:=hd (fun W:World=>spsize_any u z3 W);have HE:=hd (SP.each_pos u);obtain⟨d,HD⟩:∃d,Hd (d=SP.dv ((s.data.toList.drop e).take n)):=⟨_,hd rfl⟩
   rw[←HD.o]at C3 HGO;have HF:=hd (fun h=>SP.sum_few (d:=d) (u:=u) (sum:=sum) h);have HM:=hd (fun h=>SP.sum_many (d:=d) (u:=u) (sum:=sum) h);generalize SP.each u=E at *;obtain⟨hE0,hE1⟩:=HE.o;obtain⟨m,HMN⟩:∃m,Hd (min d SP.MD1=m):=⟨_,hd rfl⟩
   have hm:m≤315360000000001:=(by have:=HMN.o;have e3:SP.MD1=315360000000001:=rfl;omega);rw[HMN.o]at C3 HF HM;obtain⟨q,HQ⟩:∃q,Hd (SP.MD/E=q):=⟨_,hd rfl⟩
   have HQI:Hd ((315360000000000:Int).tdiv (E:Int)=(q:Int)):=hd <|by
    rw[←HQ.o];rfl
   have hq1:q≤315360000000000:=(by rw[←HQ.o];exact Nat.div_le_self _ _);have hqw:IntKind.i64.wrap (q:Int)=q:=SP.wrap_i64 _ (by omega) (by omega);have hq2:=HQI.o;rw[HQ.o]at HF HM;have hE0I:(0:Int)<(E:Int):=(by omega);have hmE:=hd (fun h:m≤q=>SP.mul_le_of (m:=SP.MD) hE0 (by rw[HQ.o];exact h));clear HS HD HMN HQ HQI HE h0;by_cases hmq:m≤q
   ·have hmqI:¬ (q:Int)<(m:Int):=by omega
    obtain⟨p,hp⟩:∃p,m*E=p:=⟨_,rfl⟩
    have hpI:(m:Int)*(E:Int)=(p:Int):=(by rw[←hp];simp);have hpB:p≤315360000000000:=(by rw[←hp];exact hmE.o hmq);have HS2:=hd (HF.o hmq);rw[hp]at HS2;clear hp hmE HM HF;by_cases hlt:sum+p<315360000000001
    ·have hltI:(sum:Int)+(p:Int)<315360000000001:=by omega
     have HR:=hd (HGO.o (sum+p) (by rw[←HS2.o];have e3:SP.MD1=315360000000001:=rfl;omega));have hsumI:(sum:Int)≤315360000000001:=(by omega);have hpBI:(p:Int)≤315360000000000:=(by omega);have hqI:(q:Int)≤315360000000000:=(by omega);have hmI:(m:Int)≤315360000000001:=(by omega);have HLT:=hd hlt;have HSM:=hd hsum;have HLI:=hd (And.intro hltI (And.intro hsumI (And.intro hpBI (And.intro hmI (And.intro hqI hpI)))));clear HGO HS2 hlt hsum hpB hq1 hm hE1 hltI hsumI hpBI hmI hqI hpI;go_wp2_with (first
      |(go_at_call 161;refine(C1.o _).mono ?_;rintro e1 w1 ⟨rfl,rfl⟩)
      |(go_at_call 162;refine(C2.o _).mono ?_;rintro e2 w2 ⟨rfl,hb2⟩;replace hb2:=hd (bel HB.o hb2))
      |(go_at_call 163;refine(C3.o _).mono ?_;rintro e3 w3 ⟨rfl,rfl⟩)
      |(go_at_call 164;refine(C4.o _).mono ?_;rintro e4 w4 ⟨rfl,rfl⟩;obtain⟨hsumI,hpBI,hmI,hqI,hpI⟩:=HLI.o.2))
     go_roundw
     case rel=>exact⟨e+n+k,sum+p,u+1,huk,by go_num,(by have:=HLI.o.1;rw[if_neg (by omega)];go_num),by have:=HLT.o;omega,by go_num,by omega,HR,hb2⟩
     case measure=>simp[intOf];omega
    ·have hltI:¬ (sum:Int)+(p:Int)<315360000000001:=by omega
     have HR:=hd (HGO.o 315360000000001 (by rw[←HS2.o];have e3:SP.MD1=315360000000001:=rfl;omega));have hsumI:(sum:Int)≤315360000000001:=(by omega);have hpBI:(p:Int)≤315360000000000:=(by omega);have hqI:(q:Int)≤315360000000000:=(by omega);have hmI:(m:Int)≤315360000000001:=(by omega);have HLT:=hd hlt;have HSM:=hd hsum;have HLI:=hd (And.intro hltI (And.intro hsumI (And.intro hpBI (And.intro hmI (And.intro hqI hpI)))));clear HGO HS2 hlt hsum hpB hq1 hm hE1 hltI hsumI hpBI hmI hqI hpI;go_wp2_with (first
      |(go_at_call 161;refine(C1.o _).mono ?_;rintro e1 w1 ⟨rfl,rfl⟩)
      |(go_at_call 162;refine(C2.o _).mono ?_;rintro e2 w2 ⟨rfl,hb2⟩;replace hb2:=hd (bel HB.o hb2))
      |(go_at_call 163;refine(C3.o _).mono ?_;rintro e3 w3 ⟨rfl,rfl⟩)
      |(go_at_call 164;refine(C4.o _).mono ?_;rintro e4 w4 ⟨rfl,rfl⟩;obtain⟨hsumI,hpBI,hmI,hqI,hpI⟩:=HLI.o.2))
     go_roundw
     case rel=>exact⟨e+n+k,315360000000001,u+1,huk,by go_num,(by have:=HLI.o.1;split<;>first|rfl|(congr 1;omega)),Nat.le_refl _,by go_num,by omega,HR,hb2⟩
     case measure=>simp[intOf];omega
   ·have hmqI:(q:Int)<(m:Int):=by omega
    have HR:=hd (HGO.o 315360000000001 (HM.o (by omega)));clear HGO HM HF hmE;go_wp2_with (first
     |(go_at_call 161;refine(C1.o _).mono ?_;rintro e1 w1 ⟨rfl,rfl⟩)
     |(go_at_call 162;refine(C2.o _).mono ?_;rintro e2 w2 ⟨rfl,hb2⟩;replace hb2:=hd (bel HB.o hb2))
     |(go_at_call 163;refine(C3.o _).mono ?_;rintro e3 w3 ⟨rfl,rfl⟩)
     |(go_at_call 164;refine(C4.o _).mono ?_;rintro e4 w4 ⟨rfl,rfl⟩))
    go_roundw
    case rel=>exact⟨e+n+k,315360000000001,u+1,huk,by go_num,by go_num,Nat.le_refl _,by go_num,by omega,HR,hb2⟩
    case measure=>simp[intOf];omega
theorem spprefix_any (s:ByteArray)(w:World)(hs:s.size≤1125899906842624) :
  Calls prog 118 #[.string s] w fun e w'=>e=.returned (.int .i64 ((SP.M s.data.toList 0).1:Nat))∧Below w.heap.size w w':=by
 have C:=hd (fun W:World=>spmeas_any s W hs);generalize (SP.M s.data.toList 0).1=a at *;generalize min (SP.M s.data.toList 0).2 SP.MD1=b at *;go_enter func118,ntmps118;go_wp2_with (go_at_call 145;refine(C.o _).mono ?_;rintro e1 w1 ⟨rfl,hb⟩)
 go_ret;exact⟨rfl,hb⟩
theorem SP.err_short {s:ByteArray}(h:s.size≤64){a b:Nat}(ha:(SP.M s.data.toList 0).1=a)(hb:min (SP.M s.data.toList 0).2 SP.MD1=b) :
  ((a=0∨a<s.size)→SP.err s.data.toList=30)∧(a≠0→s.size≤a→(SP.MD<b→SP.err s.data.toList=31)∧(b≤SP.MD→SP.err s.data.toList=0∧SP.val s.data.toList=b)):=by
 have hl:=Lib.size_eq s;have hle:=SP.M_le s.data.toList 0;have h2:SP.MD<SP.MD1:=(by decide);have h3:¬ 64<s.data.toList.length:=by omega
 constructor
 ·intro h0
  unfold SP.err;rw[if_neg h3,if_pos];rcases h0 with h0|h0
  ·by_cases e:s.data.toList=[]
   ·exact .inl e
   ·refine .inr ?_
    have:0<s.data.toList.length:=List.length_pos_iff.2 e;omega
  ·exact .inr (by omega)
 ·intro h0 h1
  have h4:¬ (s.data.toList=[]∨(SP.M s.data.toList 0).1≠s.data.toList.length):=by
   rintro (e|e)
   ·rw[e]at hle;simp only[List.length_nil]at hle;rw[e]at ha;omega
   ·omega
  constructor
  ·intro hm
   unfold SP.err;rw[if_neg h3,if_neg h4,if_pos (by omega)]
  ·intro hm
   have:SP.err s.data.toList=0:=by
    unfold SP.err;rw[if_neg h3,if_neg h4,if_neg (by omega)]
   refine⟨this,?_⟩;unfold SP.val;rw[if_pos this];omega
theorem spparse_any (s:ByteArray)(w:World)(hs:s.size≤1125899906842624) :
  Calls prog 119 #[.string s] w fun e w'=>e=.returned (.tuple #[.int .i64 (SP.val s.data.toList),.int .i64 (SP.err s.data.toList)])∧Below w.heap.size w w':=by
 by_cases h64:s.size≤64
 ·have h64I:¬ (64:Int)<(s.size:Int):=by omega
  have C:=hd (fun W:World=>spmeas_any s W hs);obtain⟨a,HA⟩:∃a,Hd ((SP.M s.data.toList 0).1=a):=⟨_,hd rfl⟩
  obtain⟨b,HBB⟩:∃b,Hd (min (SP.M s.data.toList 0).2 SP.MD1=b):=⟨_,hd rfl⟩
  rw[HA.o,HBB.o]at C;have hb1:b≤315360000000001:=(by have:=HBB.o;have e3:SP.MD1=315360000000001:=rfl;omega);have ha1:a≤1125899906842624:=(by have:=SP.M_le s.data.toList 0;rw[HA.o,←Lib.size_eq]at this;omega);have HX:=hd (SP.err_short h64 HA.o HBB.o);clear HA HBB;by_cases h0:a=0
  ·subst h0
   have P1:=hd (HX.o.1 (.inl rfl));have P2:Hd (SP.val s.data.toList=0):=hd (by unfold SP.val;rw[P1.o];rfl);go_enter func119,ntmps119;go_wp2_with (go_at_call 145;refine(C.o _).mono ?_;rintro e1 w1 ⟨rfl,hb⟩)
   go_ret2;exact⟨SP.ret_two P2.o.symm P1.o.symm,hb⟩
  ·have h0I:((a:Int)==0)=false:=by(rw[bf];omega)
   by_cases h1:a<s.size
   ·have h1I:(a:Int)<(s.size:Int):=by omega
    have P1:=hd (HX.o.1 (.inr h1));have P2:Hd (SP.val s.data.toList=0):=hd (by unfold SP.val;rw[P1.o];rfl);go_enter func119,ntmps119;go_wp2_with (go_at_call 145;refine(C.o _).mono ?_;rintro e1 w1 ⟨rfl,hb⟩)
    go_ret2;exact⟨SP.ret_two P2.o.symm P1.o.symm,hb⟩
   ·have h1I:¬ (a:Int)<(s.size:Int):=by omega
    by_cases h2:b≤315360000000000
    ·have h2I:¬ (315360000000000:Int)<(b:Int):=by omega
     obtain⟨p1,p2⟩:=(HX.o.2 h0 (by omega)).2 h2;have P1:=hd p1;have P2:=hd p2;clear p1 p2;go_enter func119,ntmps119;go_wp2_with (go_at_call 145;refine(C.o _).mono ?_;rintro e1 w1 ⟨rfl,hb⟩)
     go_ret2;exact⟨SP.ret_two P2.o.symm P1.o.symm,hb⟩
    ·have h2I:(315360000000000:Int)<(b:Int):=by omega
     have P1:=hd ((HX.o.2 h0 (by omega)).1 (by show 315360000000000<b;omega));have P2:Hd (SP.val s.data.toList=0):=hd (by unfold SP.val;rw[P1.o];rfl);go_enter func119,ntmps119;go_wp2_with (go_at_call 145;refine(C.o _).mono ?_;rintro e1 w1 ⟨rfl,hb⟩)
     go_ret2;exact⟨SP.ret_two P2.o.symm P1.o.symm,hb⟩
 ·have h64I:(64:Int)<(s.size:Int):=by omega
  have P1:Hd (SP.err s.data.toList=1):=hd (by unfold SP.err;rw[if_pos (by rw[←Lib.size_eq];omega)]);have P2:Hd (SP.val s.data.toList=0):=hd (by unfold SP.val;rw[P1.o];rfl);go_enter func119,ntmps119;go_wp2;go_ret2;exact⟨SP.ret_two P2.o.symm P1.o.symm,Below.refl _ _⟩
namespace SP
theorem un_at {s:ByteArray}{i:Nat}(hi:i<s.size){c k:Nat}(h:(s[i]'hi).toNat=c)(hk:ix c=k)(h6:k<6)(hn:c≠109):un (s.data.toList.drop i)=(k,1):=by
 rw[data_drop' s i hi,un_cons,if_neg (by rw[h];intro e;exact hn e.1),h,hk,if_neg (by omega)]
theorem un_m1 {s:ByteArray}{i:Nat}(hi:i<s.size)(h:(s[i]'hi).toNat=109)(h2:∀(h':i+1<s.size),(s[i+1]'h').toNat≠115):un (s.data.toList.drop i)=(4,1):=by
 rw[data_drop' s i hi,un_cons,if_neg,if_neg (by rw[h];decide),h]
 ·rfl
 ·rintro⟨_,e⟩
  by_cases h':i+1<s.size
  ·rw[data_drop' s (i+1) h']at e
   unfold h115 at e;exact h2 h' (by simpa using e)
  ·rw[List.drop_eq_nil_of_le (by rw[←Lib.size_eq];omega)]at e
   exact absurd e (by decide)
theorem un_ms' {s:ByteArray}{i:Nat}(hi:i+1<s.size)(h:(s[i]'(by omega)).toNat=109)(h2:(s[i+1]'hi).toNat=115):un (s.data.toList.drop i)=(6,2):=by
 rw[data_drop' s i (by omega),un_cons,if_pos];refine⟨h,?_⟩;rw[data_drop' s (i+1) hi];unfold h115;simpa using h2
theorem un_no {s:ByteArray}{i:Nat}(hi:i<s.size)(h:ix (s[i]'hi).toNat=7):un (s.data.toList.drop i)=(7,0):=by
 rw[data_drop' s i hi,un_cons,if_neg,if_pos h];rintro⟨e,_⟩;rw[e]at h;exact absurd h (by decide)
theorem un_end {s:ByteArray}{i:Nat}(hi:¬ i<s.size):un (s.data.toList.drop i)=(7,0):=by
 rw[List.drop_eq_nil_of_le (by rw[←Lib.size_eq];omega)];rfl
def r3 (r:Nat×Nat):Value:=if r.1=7 then .tuple #[.int .i64 0,.int .i64 0,.int .i64 0] else .tuple #[.int .i64 (r.2:Nat),.int .i64 ((each r.1:Nat):Int),.int .i64 ((r.1+1:Nat):Int)]
end SP
theorem s3unit_any (s:ByteArray)(i:Nat)(w:World)(hs:s.size≤1125899906842624)(hie:i≤s.size) :
  Calls prog 123 #[.string s,.int .i64 i] w fun e w'=>e=.returned (SP.r3 (SP.un (s.data.toList.drop i)))∧w'=w:=by
 by_cases hi:i<s.size
 ·have hiI:¬ (s.size:Int)≤(i:Int):=by omega
  have hc:(s[i]'hi).toNat<256:=(s[i]'hi).toNat_lt;obtain⟨c,hce⟩:∃c,(s[i]'hi).toNat=c:=⟨_,rfl⟩
  by_cases h0:c=121
  ·subst h0
   have t0:(((s[i]'hi).toNat:Int)==121)=true:=(by rw[hce];rfl);have P:=hd (SP.un_at hi hce rfl (by decide) (by decide));go_enter func123,ntmps123;go_wp2;go_ret3;exact⟨by rw[P.o];rfl,rfl⟩
  ·have t0:(((s[i]'hi).toNat:Int)==121)=false:=by(rw[bf];omega)
   by_cases h1:c=119
   ·subst h1
    have t1:(((s[i]'hi).toNat:Int)==119)=true:=(by rw[hce];rfl);have P:=hd (SP.un_at hi hce rfl (by decide) (by decide));go_enter func123,ntmps123;go_wp2;go_ret3;exact⟨by rw[P.o];rfl,rfl⟩
   ·have t1:(((s[i]'hi).toNat:Int)==119)=false:=by(rw[bf];omega)
    by_cases h2:c=100
    ·subst h2
     have t2:(((s[i]'hi).toNat:Int)==100)=true:=(by rw[hce];rfl);have P:=hd (SP.un_at hi hce rfl (by decide) (by decide));go_enter func123,ntmps123;go_wp2;go_ret3;exact⟨by rw[P.o];rfl,rfl⟩
    ·have t2:(((s[i]'hi).toNat:Int)==100)=false:=by(rw[bf];omega)
     by_cases h3:c=104
     ·subst h3
      have t3:(((s[i]'hi).toNat:Int)==104)=true:=(by rw[hce];rfl);have P:=hd (SP.un_at hi hce rfl (by decide) (by decide));go_enter func123,ntmps123;go_wp2;go_ret3;exact⟨by rw[P.o];rfl,rfl⟩
     ·have t3:(((s[i]'hi).toNat:Int)==104)=false:=by(rw[bf];omega)
      by_cases h4:c=109
      ·subst h4
       have t4:(((s[i]'hi).toNat:Int)==109)=true:=(by rw[hce];rfl);by_cases hi1:i+1<s.size
       ·have hi1I:(i:Int)+1<(s.size:Int):=by omega
        have hc1:(s[i+1]'hi1).toNat<256:=(s[i+1]'hi1).toNat_lt;by_cases h9:(s[i+1]'hi1).toNat=115
        ·have t9:(((s[i+1]'hi1).toNat:Int)==115)=true:=by rw[h9];rfl
         have P:=hd (SP.un_ms' hi1 hce h9);go_enter func123,ntmps123;go_wp2;go_ret3;exact⟨by rw[P.o];rfl,rfl⟩
        ·have t9:(((s[i+1]'hi1).toNat:Int)==115)=false:=by(rw[bf];omega)
         have P:=hd (SP.un_m1 hi hce (fun _=>h9));go_enter func123,ntmps123;go_wp2;go_ret3;exact⟨by rw[P.o];rfl,rfl⟩
       ·have hi1I:¬ (i:Int)+1<(s.size:Int):=by omega
        have P:=hd (SP.un_m1 hi hce (fun h=>absurd h hi1));go_enter func123,ntmps123;go_wp2;go_ret3;exact⟨by rw[P.o];rfl,rfl⟩
      ·have t4:(((s[i]'hi).toNat:Int)==109)=false:=by(rw[bf];omega)
       by_cases h5:c=115
       ·subst h5
        have t5:(((s[i]'hi).toNat:Int)==115)=true:=(by rw[hce];rfl);have P:=hd (SP.un_at hi hce rfl (by decide) (by decide));go_enter func123,ntmps123;go_wp2;go_ret3;exact⟨by rw[P.o];rfl,rfl⟩
       ·have t5:(((s[i]'hi).toNat:Int)==115)=false:=by(rw[bf];omega)
        have P:Hd (SP.un (s.data.toList.drop i)=(7,0)):=hd (SP.un_no hi (by rw[hce];unfold SP.ix;simp[h0,h1,h2,h3,h4,h5]));go_enter func123,ntmps123;go_wp2;go_ret3;exact⟨by rw[P.o];rfl,rfl⟩
 ·have hiI:(s.size:Int)≤(i:Int):=by omega
  have P:=hd (SP.un_end hi);go_enter func123,ntmps123;go_wp2;go_ret3;exact⟨by rw[P.o];rfl,rfl⟩
theorem s3prefix_any (s:ByteArray)(w:World)(hs:s.size≤1125899906842624) :
  Calls prog 92 #[.string s] w fun e w'=>e=.returned (.int .i64 ((SP.M s.data.toList 0).1:Nat))∧w'=w:=by
 go_enter func92,ntmps92;go_wp2
 go_loop [3,4] (fun x z=>∃e sum nx:Nat,e≤s.size∧x=.int .i64 e∧z=.int .i64 nx∧nx≤7∧Hd (SP.St s.data.toList e nx sum)) (fun x z=>8-(intOf z).toNat)
 case atStart=>exact⟨0,0,0,Nat.zero_le _,rfl,rfl,by omega,hd (SP.St.start _)⟩
 case round=>
  obtain⟨e,sum,nx,he,rfl,rfl,hnx,HS⟩:=hrel;by_cases hes:e<s.size
  ·have hesI:(e:Int)<(s.size:Int):=by omega
   have HNL:=hd (PN.spn_le PN.dg (s.data.toList.drop e));obtain⟨n,HN⟩:∃n,Hd (PN.spn PN.dg (s.data.toList.drop e)=n):=⟨_,hd rfl⟩
   have hnl:e+n≤s.size:=(by have:=HNL.o;rw[HN.o,List.length_drop,←Lib.size_eq]at this;omega);clear HNL;obtain⟨u,k,HU⟩:∃u k,Hd (SP.un (s.data.toList.drop (e+n))=(u,k)):=⟨_,_,hd rfl⟩
   have hu:u≤7∧e+n+k≤s.size∧(u<7→1≤k):=by
    have:=SP.un_cases (s.data.toList.drop (e+n));rw[HU.o,List.length_drop,←Lib.size_eq]at this;rcases this with h|⟨h,h2⟩|⟨v,h1,h2,h3⟩
    ·simp only[Prod.mk.injEq]at h;omega
    ·simp only[Prod.mk.injEq]at h;omega
    ·simp only[Prod.mk.injEq]at h2;omega
   obtain⟨hu7,huk,hk1⟩:=hu;have C1:=hd (fun W:World=>by have h:=s3run_any s e W hs he;rw[HN.o]at h;exact h);have C2:=hd (fun W:World=>by have h:=s3unit_any s (e+n) W hs hnl;rw[HU.o]at h;exact h);by_cases h0:n=0∨u<nx∨u=7
   ·obtain⟨hE,hS⟩:=HS.o.stop HN.o (by rw[HU.o]) h0
    have HE:=hd hE;clear hE hS;by_cases z3:u=7
    ·subst z3
     have C2':=hd (fun W:World=>by have h:=C2.o W;unfold SP.r3 at h;rw[if_pos rfl]at h;exact h);clear C2 h0 hk1;by_cases z1:n=0
     ·subst z1
      go_wp2_with (first
       |(go_at_call 122;refine(C1.o _).mono ?_;rintro e1 w1 ⟨rfl,rfl⟩)
       |(go_at_call 123;refine(C2'.o _).mono ?_;rintro e2 w2 ⟨rfl,rfl⟩))
      go_ret;exact⟨ret_int (by have:=HE.o;omega),rfl⟩
     ·have z1I:((e:Int)+(n:Int)==(e:Int))=false:=by(rw[bf];omega)
      go_wp2_with (first
       |(go_at_call 122;refine(C1.o _).mono ?_;rintro e1 w1 ⟨rfl,rfl⟩)
       |(go_at_call 123;refine(C2'.o _).mono ?_;rintro e2 w2 ⟨rfl,rfl⟩))
      go_ret;exact⟨ret_int (by have:=HE.o;omega),rfl⟩
    ·have C2':=hd (fun W:World=>by have h:=C2.o W;unfold SP.r3 at h;rw[if_neg z3]at h;exact h)
     have hk2:1≤k:=hk1 (by omega);have hk2I:((k:Int)==0)=false:=by(rw[bf];omega)
     obtain⟨E,HEe⟩:∃E,Hd (SP.each u=E):=⟨_,hd rfl⟩
     have hE1:=(SP.each_pos u).2;simp only at C2';rw[HEe.o]at C2' hE1;clear C2 hk1;by_cases z1:n=0
     ·subst z1
      go_wp2_with (first
       |(go_at_call 122;refine(C1.o _).mono ?_;rintro e1 w1 ⟨rfl,rfl⟩)
       |(go_at_call 123;refine(C2'.o _).mono ?_;rintro e2 w2 ⟨rfl,rfl⟩))
      go_ret;exact⟨ret_int (by have:=HE.o;omega),rfl⟩
     ·have z1I:((e:Int)+(n:Int)==(e:Int))=false:=by(rw[bf];omega)
      have z2I:(u:Int)+1≤(nx:Int):=(by omega);go_wp2_with (first
       |(go_at_call 122;refine(C1.o _).mono ?_;rintro e1 w1 ⟨rfl,rfl⟩)
       |(go_at_call 123;refine(C2'.o _).mono ?_;rintro e2 w2 ⟨rfl,rfl⟩))
      go_ret;exact⟨ret_int (by have:=HE.o;omega),rfl⟩
   ·have z1:n≠0:=fun h=>h0 (.inl h)
    have z2:nx≤u:=(by omega);have z3:u<7:=(by omega);have HGO:=hd (HS.o.go HN.o HU.o z1 z2 z3 _ rfl);have z2I:¬ (u:Int)+1≤(nx:Int):=(by omega);have z1I:((e:Int)+(n:Int)==(e:Int))=false:=by(rw[bf];omega)
    have C2':=hd (fun W:World=>by have h:=C2.o W;unfold SP.r3 at h;rw[if_neg (by show ¬ u=7;omega)]at h;exact h);have hk2:1≤k:=hk1 (by omega);have hk2I:((k:Int)==0)=false:=by(rw[bf];omega)
    obtain⟨E,HEe⟩:∃E,Hd (SP.each u=E):=⟨_,hd rfl⟩
    have hE1:=(SP.each_pos u).2;simp only at C2';rw[HEe.o]at C2' hE1;clear C2 hk1 h0;go_wp2_with (first
     |(go_at_call 122;refine(C1.o _).mono ?_;rintro e1 w1 ⟨rfl,rfl⟩)
     |(go_at_call 123;refine(C2'.o _).mono ?_;rintro e2 w2 ⟨rfl,rfl⟩))
    go_round
    case rel=>exact⟨e+n+k,_,u+1,huk,by go_num,by go_num,by omega,HGO⟩
    case measure=>simp[intOf];omega
  ·obtain⟨hE,hS⟩:=HS.o.stop (n:=0) (u:=7) (by rw[List.drop_eq_nil_of_le (by rw[←Lib.size_eq];omega)];rfl) (by rw[List.drop_eq_nil_of_le (by rw[←Lib.size_eq];omega)];rfl) (.inl rfl)
   have HE:=hd hE;clear hE hS;go_wp2;go_ret;exact⟨ret_int (by have:=HE.o;omega),rfl⟩
theorem s3many_any (s:ByteArray)(E:Nat)(w:World)(hs:s.size≤1125899906842624)(hdg:∀c∈s.data.toList,PN.dg c.toNat=true)(hE0:0<E)(hE1:E≤31536000000) :
  Calls prog 126 #[.string s,.int .i64 E] w fun e w'=>e=.returned (.int .i64 ((SP.part (SP.dv s.data.toList) E:Nat):Int))∧w'=w:=by
 have HD:=hd hdg;clear hdg;obtain⟨q,HQ⟩:∃q,Hd (SP.MD/E=q):=⟨_,hd rfl⟩
 have hq2:(315360000000000:Int).tdiv (E:Int)=(q:Int):=(by rw[←HQ.o];rfl);have hq1:q≤315360000000000:=(by rw[←HQ.o];exact Nat.div_le_self _ _);have hqw:IntKind.i64.wrap (q:Int)=q:=SP.wrap_i64 _ (by omega) (by omega);have hE0I:((E:Int)==0)=false:=by(rw[bf];omega)
 go_enter func126,ntmps126;go_wp2
 go_loop [5,6] (fun y x=>∃k n:Nat,k≤s.size∧x=.int .i64 k∧y=.int .i64 n∧n≤q∧Hd (n=SP.dv (s.data.toList.take k))) (fun y x=>s.size-(intOf x).toNat)
 case atStart=>exact⟨0,0,Nat.zero_le _,rfl,rfl,by omega,hd rfl⟩
 case round=>
  obtain⟨k,n,hk,rfl,rfl,hn,HN⟩:=hrel;by_cases hlt:k<s.size
  ·have hkl:k<s.data.toList.length:=by rw[←Lib.size_eq];exact hlt
   have hc:=SP.dg_bd (HD.o (s.data.toList[k]'hkl) (List.getElem_mem hkl));have e1:(s.data.toList[k]'hkl)=s[k]'hlt:=rfl;have HS:=hd (SP.dv_step s.data.toList k hkl);have HMO:=hd (SP.dv_mono s.data.toList (k+1) s.data.toList.length (by omega));rw[List.take_length]at HMO;rw[e1]at hc HS;clear e1;have HX:Hd (n*10+((s[k]'hlt).toNat-48)=SP.dv (s.data.toList.take (k+1))):=hd <|by
    rw[HS.o,HN.o]
   clear HS HN;obtain⟨hc1,hc2⟩:=hc;by_cases hm:q<n*10+((s[k]'hlt).toNat-48)
   ·have hmI:(q:Int)<(n:Int)*10+(((s[k]'hlt).toNat:Int)-48):=by omega
    have P:Hd (SP.part (SP.dv s.data.toList) E=315360000000001):=hd (SP.many_over hE0 (by rw[←HX.o]at HMO;exact HMO.o) (by rw[HQ.o];exact hm));clear HMO HX;go_wp2;go_ret;exact⟨by rw[P.o];rfl,rfl⟩
   ·have hmI:¬ (q:Int)<(n:Int)*10+(((s[k]'hlt).toNat:Int)-48):=by omega
    clear HMO;go_wp2
    go_round
    case rel=>exact⟨k+1,n*10+((s[k]'hlt).toNat-48),by omega,by go_num,by go_num,by omega,HX⟩
    case measure=>simp[intOf];omega
  ·have e:s.data.toList.take k=s.data.toList:=List.take_of_length_le (by rw[←Lib.size_eq];omega)
   rw[e]at HN;have P:Hd (SP.part (SP.dv s.data.toList) E=n*E):=hd (by rw[←HN.o];exact SP.many_in hE0 (by rw[HQ.o];exact hn));have hnE:Hd (n*E≤315360000000000):=hd (SP.mul_le_of (m:=SP.MD) hE0 (by rw[HQ.o];exact hn));obtain⟨p,hp⟩:∃p,n*E=p:=⟨_,rfl⟩
   have hpI:(n:Int)*(E:Int)=(p:Int):=(by rw[←hp];simp);have hpB:=hnE.o;rw[hp]at P hpB;clear hp hnE HN e;go_wp2;go_ret;exact⟨ret_int (by rw[P.o]),rfl⟩
theorem SP.Pr.end' {l:List UInt8}{e nx sum:Nat}(S:SP.Pr l e nx sum)(he:e=l.length)(h64:l.length≤64)(hne:l≠[])(hf:(SP.M l 0).1=l.length) :
  (SP.MD<sum→SP.err l=31)∧(sum≤SP.MD→SP.err l=0∧SP.val l=sum):=by
 have hm:SP.M (l.drop e) nx=(0,0):=by
  rw[List.drop_eq_nil_of_le (by omega)];exact SP.M_stop (.inl rfl)
 have h1:=S.far;have h2:=S.eq;rw[hm]at h1 h2;simp only[Nat.add_zero]at h1 h2;have h3:¬ 64<l.length:=(by omega);have h4:¬ (l=[]∨(SP.M l 0).1≠l.length):=by
  rintro (e|e)
  ·exact hne e
  ·exact e hf
 constructor
 ·intro hs
  unfold SP.err;rw[if_neg h3,if_neg h4,if_pos (h1.1 hs)]
 ·intro hs
  have h5:¬ SP.MD<(SP.M l 0).2:=fun h=>absurd (h1.2 h) (by omega)
  have:SP.err l=0:=by
   unfold SP.err;rw[if_neg h3,if_neg h4,if_neg h5]
  refine⟨this,?_⟩;unfold SP.val;rw[if_pos this,h2 (by omega)]
theorem SP.Pr.bd' {l:List UInt8}{e nx sum:Nat}(S:SP.Pr l e nx sum):sum≤2207520000000007:=by
 have h1:=S.bd;have h2:=Nat.mul_le_mul_right SP.MD1 S.nx;have h3:7*SP.MD1=2207520000000007:=(by decide);omega
theorem SP.err_none {l:List UInt8}(h:¬ 64<l.length)(h2:l=[]∨(SP.M l 0).1≠l.length):SP.err l=30:=by
 unfold SP.err;rw[if_neg h,if_pos h2]
theorem SP.val_none {l:List UInt8}{k:Int}(h:SP.err l=k)(hk:k≠0):SP.val l=0:=by
 unfold SP.val;rw[if_neg (by rw[h];exact hk)]
theorem s3parse_any (s:ByteArray)(w:World)(hs:s.size≤1125899906842624) :
  Calls prog 94 #[.string s] w fun e w'=>e=.returned (.tuple #[.int .i64 (SP.val s.data.toList),.int .i64 (SP.err s.data.toList)])∧w'=w:=by
 by_cases h64:s.size≤64
 ·have h64I:¬ (64:Int)<(s.size:Int):=by omega
  have h64L:¬ 64<s.data.toList.length:=(by rw[←Lib.size_eq];omega);by_cases h0:s.size=0
  ·have hs0:s=ByteArray.empty:=ByteArray.size_eq_zero_iff.1 h0
   subst hs0;have P1:=hd (SP.err_none (l:=[]) (by decide) (.inl rfl));have P2:=hd (SP.val_none P1.o (by decide));go_enter func94,ntmps94;go_wp2;go_ret2;exact⟨SP.ret_two P2.o.symm P1.o.symm,rfl⟩
  ·have hne:s.toList.isEmpty=false:=by
    rw[List.isEmpty_eq_false_iff];intro e;apply h0;rw[Lib.size_eq,←ByteArray.toList_eq,e];rfl
   have hneL:s.data.toList≠[]:=fun e=>h0 (by rw[Lib.size_eq,e];rfl)
   have C:=hd (fun W:World=>s3prefix_any s W hs);by_cases h1:(SP.M s.data.toList 0).1=s.size
   ·have HF:Hd ((SP.M s.data.toList 0).1=s.data.toList.length):=hd (by rw[←Lib.size_eq];exact h1)
    rw[h1]at C;have HNE:=hd hneL;have H64:=hd h64L;clear h1 hneL h64L;go_enter func94,ntmps94;go_wp2_with (go_at_call 92;refine(C.o _).mono ?_;rintro e1 w1 ⟨rfl,rfl⟩)
    go_loop [4,5] (fun y x=>∃e sum nx:Nat,e≤s.size∧x=.int .i64 e∧y=.int .i64 sum∧Hd (SP.Pr s.data.toList e nx sum)) (fun y x=>s.size-(intOf x).toNat)
    case atStart=>exact⟨0,0,0,Nat.zero_le _,rfl,rfl,hd (SP.Pr.start _)⟩
    case round=>
     obtain⟨e,sum,nx,he,rfl,rfl,HS⟩:=hrel;have hsb:=SP.Pr.bd' HS.o;by_cases hes:e<s.size
     ·have hesI:(e:Int)<(s.size:Int):=by omega
      have HON:=hd (HS.o.on HF.o (by rw[←Lib.size_eq];exact hes));have HNL:=hd (PN.spn_le PN.dg (s.data.toList.drop e));obtain⟨n,HN⟩:∃n,Hd (PN.spn PN.dg (s.data.toList.drop e)=n):=⟨_,hd rfl⟩
      have hnl:e+n≤s.size:=(by have:=HNL.o;rw[HN.o,List.length_drop,←Lib.size_eq]at this;omega);clear HNL;obtain⟨u,k,HU⟩:∃u k,Hd (SP.un (s.data.toList.drop (e+n))=(u,k)):=⟨_,_,hd rfl⟩
      have hu:e+n+k≤s.size:=by
       have:=SP.un_cases (s.data.toList.drop (e+n));rw[HU.o,List.length_drop,←Lib.size_eq]at this;rcases this with h|⟨h,h2⟩|⟨v,h1,h2,h3⟩
       ·simp only[Prod.mk.injEq]at h;omega
       ·simp only[Prod.mk.injEq]at h;omega
       ·simp only[Prod.mk.injEq]at h2;omega
      have hon:=HON.o;rw[HN.o,HU.o]at hon;obtain⟨z1,z2,z3⟩:=hon;simp only at z2 z3;obtain⟨hgo,hk⟩:=HS.o.go HN.o HU.o z1 z2 z3;have HGO:=hd hgo;have HK:=hd hk;have HP:=hd (SP.part_le (SP.dv ((s.data.toList.drop e).take n)) (SP.each u));have C1:=hd (fun W:World=>by have h:=s3run_any s e W hs he;rw[HN.o]at h;exact h);have C2:=hd (fun W:World=>by have h:=s3unit_any s (e+n) W hs hnl;rw[HU.o]at h;unfold SP.r3 at h;rw[if_neg (by show ¬ u=7;omega)]at h;exact h);have hB8:∀b∈(s.extract e (e+n)).data.toList,PN.dg b.toNat=true:=fun b hb=>by
       rw[SP.ext_list]at hb;have h:=SP.spn_all PN.dg (s.data.toList.drop e);rw[HN.o]at h;exact h b hb
      have C3:=hd (fun W:World=>by have h:=s3many_any (s.extract e (e+n)) (SP.each u) W (by rw[ByteArray.size_extract];omega) hB8 (SP.each_pos u).1 (SP.each_pos u).2;rw[SP.ext_list]at h;exact h);obtain⟨p,HPP⟩:∃p,Hd (SP.part (SP.dv ((s.data.toList.drop e).take n)) (SP.each u)=p):=⟨_,hd rfl⟩
      rw[HPP.o]at C3 HGO HP;have hp:p≤315360000000001:=HP.o;simp only at C2;obtain⟨E,HEe⟩:∃E,Hd (SP.each u=E):=⟨_,hd rfl⟩
      rw[HEe.o]at C2 C3;clear hgo hk HS HON HN HU HP HPP HEe z1 z2 hB8;go_wp2_with (first
       |(go_at_call 122;refine(C1.o _).mono ?_;rintro e1 w1 ⟨rfl,rfl⟩)
       |(go_at_call 123;refine(C2.o _).mono ?_;rintro e2 w2 ⟨rfl,rfl⟩)
       |(go_at_call 126;refine(C3.o _).mono ?_;rintro e3 w3 ⟨rfl,rfl⟩))
      go_round
      case rel=>exact⟨e+n+k,sum+p,u+1,hu,by go_num,by go_num,HGO⟩
      case measure=>have:=HK.o;simp[intOf];omega
     ·obtain⟨q1,q2⟩:=SP.Pr.end' HS.o (by rw[←Lib.size_eq];omega) (by have:=H64.o;omega) HNE.o HF.o
      by_cases hm:sum≤315360000000000
      ·have hmI:¬ (315360000000000:Int)<(sum:Int):=by omega
       obtain⟨q3,q4⟩:=q2 hm;have Q3:=hd q3;have Q4:=hd q4;clear q1 q2 q3 q4;go_wp2;go_ret2;exact⟨SP.ret_two Q4.o.symm Q3.o.symm,rfl⟩
      ·have hmI:(315360000000000:Int)<(sum:Int):=by omega
       have Q3:=hd (q1 (by show 315360000000000<sum;omega));have Q4:=hd (SP.val_none Q3.o (by decide));clear q1 q2;go_wp2;go_ret2;exact⟨SP.ret_two Q4.o.symm Q3.o.symm,rfl⟩
   ·have P1:=hd (SP.err_none h64L (.inr (by rw[←Lib.size_eq];exact h1)))
    have P2:=hd (SP.val_none P1.o (by decide));obtain⟨a,HA⟩:∃a,Hd ((SP.M s.data.toList 0).1=a):=⟨_,hd rfl⟩
    rw[HA.o]at C h1;have h1I:((a:Int)==(s.size:Int))=false:=by(rw[bf];omega)
    have h1N:((a:Int)!=(s.size:Int))=true:=by(rw[bne_iff_ne];omega)
    clear HA hneL h64L;go_enter func94,ntmps94;go_wp2_with (go_at_call 92;refine(C.o _).mono ?_;rintro e1 w1 ⟨rfl,rfl⟩)
    go_ret2;exact⟨SP.ret_two P2.o.symm P1.o.symm,rfl⟩
 ·have h64I:(64:Int)<(s.size:Int):=by omega
  have P1:Hd (SP.err s.data.toList=1):=hd (by unfold SP.err;rw[if_pos (by rw[←Lib.size_eq];omega)]);have P2:=hd (SP.val_none P1.o (by decide));go_enter func94,ntmps94;go_wp2;go_ret2;exact⟨SP.ret_two P2.o.symm P1.o.symm,rfl⟩
end Go.Proofs.YtieknenhfeejiaaGreatDoor
