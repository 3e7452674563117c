/- internal/strconv.parseFloat64: the float nearest to d * 10^p. internal/strcon .. -/
import Derived.Test.YtieknenhfeejiaaGreatDoorPAtof
import Derived.Test.YtieknenhfeejiaaGreatDoorPFst
set_option maxRecDepth 100000
set_option maxHeartbeats 4000000
set_option linter.unusedVariables false
set_option linter.unusedSimpArgs false
namespace Go.Proofs.YtieknenhfeejiaaGreatDoor
open _root_.Go.Proofs.Tryz
open Go.RowKit
theorem and_pow_lt {x k:Nat}(h:x<2^k):x &&& 2^k=0:=by
 apply Nat.eq_of_testBit_eq;intro i;rw[Nat.testBit_and,Nat.testBit_two_pow,Nat.zero_testBit];by_cases c:k=i
 ·subst c;rw[Nat.testBit_lt_two_pow h];rfl
 ·simp[c]
theorem or52 (r:Nat)(hr:r<4503599627370496):4503599627370496+r=4503599627370496 |||r:=by
 have:=Nat.two_pow_add_eq_or_of_lt (i:=52) (b:=r) (by omega) 1;simpa using this
theorem and52 (r:Nat)(hr:r<4503599627370496):bits .and .u64 (4503599627370496+(r:Int)) 4503599627370496=4503599627370496:=by
 have h:=u64_and_nat (4503599627370496+r) 4503599627370496 (by omega) (by decide);have e:(4503599627370496+r) &&& 4503599627370496=4503599627370496:=by
  rw[or52 r hr,Nat.and_or_distrib_right,Nat.and_self];have:=and_pow_lt (x:=r) (k:=52) (by omega);rw[show (2:Nat)^52=4503599627370496 from rfl]at this;rw[this,Nat.or_zero]
 rw[e,show ((4503599627370496+r:Nat):Int)=4503599627370496+(r:Int) by omega]at h;exact h
theorem and63p (r:Nat)(hr:r<4503599627370496):bits .and .u64 (4503599627370496+(r:Int)) 9223372036854775808=0:=by
 have h:=u64_and_nat (4503599627370496+r) 9223372036854775808 (by omega) (by decide);have e:(4503599627370496+r) &&& 9223372036854775808=0:=and_pow_lt (k:=63) (by omega);rw[e,show ((4503599627370496+r:Nat):Int)=4503599627370496+(r:Int) by omega]at h;exact h
theorem and52_0 (r:Nat)(hr:r<4503599627370496):bits .and .u64 (r:Int) 4503599627370496=0:=by
 have h:=u64_and_nat r 4503599627370496 (by omega) (by decide);have e:r &&& 4503599627370496=0:=and_pow_lt (k:=52) (by omega);rw[e]at h;exact h
theorem andNot52 (r:Nat)(hr:r<4503599627370496):bits .andNot .u64 ((4503599627370496+r:Nat):Int) ((4503599627370496:Nat):Int)=(r:Int):=by
 rw[u64_andNot_nat _ _ (by omega) (by decide)];have e:4503599627370496+r=4503599627370496 |||r:=by
  have:=Nat.two_pow_add_eq_or_of_lt (i:=52) (b:=r) (by omega) 1;simpa using this
 have e1:r &&& 4503599627370495=r:=by
  have:=Nat.and_two_pow_sub_one_eq_mod r 52;rw[show (2:Nat)^52-1=4503599627370495 from rfl]at this;rw[this,Nat.mod_eq_of_lt (by omega)]
 have e2:r &&& (18446744073709551615-4503599627370496)=r:=by
  rw[←e1,Nat.and_assoc];congr 1
 rw[e,Nat.and_or_distrib_right,e2];have e3:(4503599627370496 &&& (18446744073709551615-4503599627370496))=0:=(by decide);rw[e3,Nat.zero_or]
def erOf (b:Nat):Value:=if b=FS.INF then .iface 201 (.int .i64 1) else .nilIface
theorem pack64_any (k K:Nat)(w:World)(hk:k<9007199254740992)(hK:K=0∨4503599627370496≤k)(hK2:K≤4000)(b:Nat)(hb:b=min (K*4503599627370496+k) FS.INF) :
  Calls prog 215 #[.int .u64 (k:Int),.int .i64 ((K:Int)-1074)] w fun e w'=>e=.returned (.tuple #[.float .f64 b,erOf b])∧w=w':=by
 have hkI:(k:Int)<9007199254740992:=(by omega);have hI:FS.INF=9218868437227405312:=rfl;by_cases c:k<4503599627370496
 ·obtain rfl:K=0:=by omega
  obtain rfl:b=k:=by omega
  have he:Hd (erOf b=.nilIface):=hd (by unfold erOf;rw[if_neg (by omega)]);have q1:=and52_0 b c;have q2:=frombits_run b;clear hb hK hI;go_enter func215,ntmps215;go_wp2;go_ret2;rw[he.o];exact⟨rfl,rfl⟩
 ·obtain⟨r,rfl⟩:∃r,k=4503599627370496+r:=⟨k-4503599627370496,by omega⟩
  have hr:r<4503599627370496:=(by omega);have q1:=and52 r hr;have kk:((4503599627370496+r:Nat):Int)=4503599627370496+(r:Int):=(by omega);rw[kk]at hkI;rw[kk];by_cases o:2046≤K
  ·obtain rfl:b=FS.INF:=by omega
   have he:Hd (erOf FS.INF=.iface 201 (.int .i64 1)):=hd (by unfold erOf;rw[if_pos rfl]);have q3:=and63p r hr;have q4:bits .or .u64 0 9218868437227405312=9218868437227405312:=(by decide);have q2:∀w,(callFunc 197 #[.int .u64 9218868437227405312]).run prog w=.ok (.value (.float .f64 9218868437227405312)) w:=frombits_run 9218868437227405312
   have hK3:972≤(K:Int)-1074:=(by omega);have hi1 : -1074≤(K:Int)-1074:=(by omega);have hi2:(K:Int)-1074≤4000:=(by omega);generalize (K:Int)-1074=e at *;rw[he.o,hI];clear hb hK hI hK2 he;go_enter func215,ntmps215;go_wp2;go_ret2;exact⟨rfl,rfl⟩
  ·have hbe:b=K*4503599627370496+(4503599627370496+r):=by omega
   have he:Hd (erOf b=.nilIface):=hd (by unfold erOf;rw[if_neg (by omega)]);have q3:=andNot52 r hr;rw[kk]at q3;have q3:bits .andNot .u64 (4503599627370496+(r:Int)) 4503599627370496=(r:Int):=q3;have q5:IntKind.u64.wrap (((K:Int)+1)*4503599627370496)=(((K+1)*4503599627370496:Nat):Int):=by
    rw[IntKind.wrap_u64];omega
   have q4:bits .or .u64 (r:Int) (((K+1)*4503599627370496:Nat):Int)=(b:Int):=by
    rw[or_u64 r _ (by omega) (by omega)];have:r |||(K+1)*4503599627370496=b:=by
     have h:=Nat.two_pow_add_eq_or_of_lt (i:=52) (b:=r) (by omega) (K+1);rw[Nat.or_comm,Nat.mul_comm,show (4503599627370496:Nat)=2^52 from rfl,←h];omega
    rw[this]
   have q6:bits .or .u64 (r:Int) ((1075+((K:Int)-1074))*4503599627370496)=(b:Int):=by
    rw[show (1075+((K:Int)-1074))*4503599627370496=(((K+1)*4503599627370496:Nat):Int) by omega];exact q4
   have q2:=frombits_run b;have hK3:¬ 972≤(K:Int)-1074:=(by omega);rw[he.o];clear hb hK hI he hbe;go_enter func215,ntmps215;go_wp2;go_ret2;exact⟨rfl,rfl⟩
theorem pre_world2 (g i:Nat)(e lq:Int)(w:World)(hT:Tbl w)(hi:i<696)(hg:g=w.heap.size)(he0 : -5000≤e)(he1:e≤5000)(hl0 : -2000≤lq)(hl1:lq≤2000)(s:Nat)(hs : -(e+lq+3)=(s:Int)) :
  Calls prog 207 #[.pointer (some ⟨g,0,none⟩),.int .i64 e,.int .i64 ((i:Int)-348),.int .i64 lq] (w.alloc (.cells #[.int .u64 0,.int .u64 0,.int .i64 0] 242)) fun x w'=>x=.returned (.tuple #[])∧
   w'.cell? ⟨g,0,none⟩=some (.int .u64 (FS.hiOf ((i:Int)-348)))∧w'.cell? ⟨g,1,none⟩=some (.int .u64 (FS.loOf ((i:Int)-348)))∧w'.cell? ⟨g,2,none⟩=some (.int .i64 s)∧Below w.heap.size w w':=by
 subst hg;have hb:Below w.heap.size w (w.alloc (.cells #[.int .u64 0,.int .u64 0,.int .i64 0] 242)):=(Below.refl _ _).alloc (Nat.le_refl _) _;refine(prescale_any w.heap.size i e lq _ (hT.below hb) hi hT.lt (.int .u64 0) (.int .u64 0) (.int .i64 0) (by simp) (by simp) (by simp) (by simp) (by simp) (by simp) (by omega) (by omega) (by omega) (by omega)).mono ?_;rintro x w' ⟨rfl,rfl⟩;rw[hs];have hk:Bk (w.alloc (.cells #[.int .u64 0,.int .u64 0,.int .i64 0] 242)) w.heap.size 242 [.int .u64 0,.int .u64 0,.int .i64 0]:=heap_alloc_new w _
 have hk2:=((hk.set 0 (.int .u64 (FS.hiOf ((i:Int)-348)))).set 1 (.int .u64 (FS.loOf ((i:Int)-348)))).set 2 (.int .i64 s);refine⟨rfl,hk2.cell 0 (by simp),hk2.cell 1 (by simp),hk2.cell 2 (by simp),?_⟩
 ·exact((hb.setCell (p:=⟨w.heap.size,0,none⟩) (Nat.le_refl _) _).setCell (p:=⟨w.heap.size,1,none⟩) (Nat.le_refl _) _).setCell (p:=⟨w.heap.size,2,none⟩) (Nat.le_refl _) _
theorem unmin_any (w:World):Calls prog 210 #[.int .u64 9007199254740992] w fun e w'=>e=.returned (.int .u64 36028797018963966)∧w'=w:=by
 go_enter func210,ntmps210;go_wp2;go_ret;exact⟨rfl,rfl⟩
theorem b2i_any (b:Bool)(w:World) :
  Calls prog 209 #[.bool b] w fun e w'=>e=.returned (.int .i64 (if b then 1 else 0))∧w'=w:=by
 cases b<;>(
  go_enter func209,ntmps209;go_wp2;go_ret;exact⟨rfl,rfl⟩)
theorem par64_small (d b i:Nat)(lq e:Int)(w:World)(hT:Tbl w)(hi:i<696)(hdl:d<18446744073709551616)(hb:b≤64)(hbl:Lib.bitLen d=b)
  (hlq:FS.lp ((i:Int)-348)=lq)(hlq0 : -2000≤lq)(hlq1:lq≤2000)(he:min 1074 (53-(b:Int)-lq)=e)(he0 : -1200≤e)(he1:e≤1074)(s:Nat)(hs : -(e-(64-(b:Int))+lq+3)=(s:Int))(hs64:64≤s) :
  Calls prog 199 #[.int .u64 d,.int .i64 ((i:Int)-348),.int .u64 0] w fun x w'=>Below w.heap.size w w'∧x=.returned (.tuple #[.float .f64 0,.nilIface]):=by
 have HT:=hd hT;have HLEN:=hd (fun W=>Any.bits_Len64 Tryz.laysN129 d W (by omega) (by omega));rw[Int.toNat_natCast,hbl]at HLEN;have HLP:=hd (fun W=>by have h:=lp_any ((i:Int)-348) (by omega) (by omega) W;rw[hlq]at h;exact h);have HS:=hd hs;have q2:∀w,(callFunc 197 #[.int .u64 0]).run prog w=.ok (.value (.float .f64 0)) w:=frombits_run 0
 have q4:bits .or .u64 0 0=0:=(by decide);clear hT hlq hbl hs;go_enter func199,ntmps199;go_wp2_with (first|(go_at_call 113;refine(HLEN.o _).mono ?_;rintro x w ⟨rfl,rfl⟩)|(go_at_call 206;refine(HLP.o _).mono ?_;rintro x w ⟨rfl,rfl⟩))
 obtain⟨g,hgg⟩:∃g,g=w.heap.size:=⟨_,rfl⟩
 have HW2:=hd (pre_world2 g i (e-(64-(b:Int))) lq w HT.o hi hgg (by omega) (by omega) hlq0 hlq1 s HS.o);rw[←hgg];clear hgg;go_wp2_with fail
 refine HW2.o.mono ?_;rintro x w2 ⟨rfl,d0,d1,d2,hbb⟩;have HB2:=hd hbb;clear hbb d0 d1;go_wp2;go_ret2;exact⟨HB2.o,rfl⟩
theorem par64_core (d b i x u k K:Nat)(lq e:Int)(w:World)(hT:Tbl w)(hi:i<696)(hdl:d<18446744073709551616)(hb:b≤64)(hbl:Lib.bitLen d=b)(sg:Bool)
  (hlq:FS.lp ((i:Int)-348)=lq)(hlq0 : -2000≤lq)(hlq1:lq≤2000)(he:min 1074 (53-(b:Int)-lq)=e)(he0 : -1200≤e)(he1:e≤1074)(s:Nat)(hs : -(e-(64-(b:Int))+lq+3)=(s:Int))(hs63:s≤63)
  (hx1:IntKind.u64.wrap ((d:Int)*2^(64-b))=(x:Int))(hx:x<18446744073709551616)(hx0:4611686018427387904≤x)(hu:FS.cut x (FS.hiOf ((i:Int)-348)) (FS.loOf ((i:Int)-348)) s=u)(hu2:u<72057594037927929)
  (hsg:decide ((36028797018963966:Int)≤(u:Int))=sg)(v:Nat)(hv:v<36028797018963966)(h0:sg=false→bits .or .u64 (u:Int) (bits .and .u64 (u:Int) 1)=(v:Int))(h1:sg=true→bits .or .u64 ((u:Int)/2) (bits .and .u64 (u:Int) 1)=(v:Int))
  (hk:(v+1+v/4%2)/4=k)(hk1:k<9007199254740992)(hK:K=0∨4503599627370496≤k)(hKe:(K:Int)=1074-e+(if sg then 1 else 0))(hK2:K≤4000)(r:Nat)(hr:r=min (K*4503599627370496+k) FS.INF) :
  Calls prog 199 #[.int .u64 d,.int .i64 ((i:Int)-348),.int .u64 0] w fun x w'=>Below w.heap.size w w'∧x=.returned (.tuple #[.float .f64 r,erOf r]):=by
 have HT:=hd hT;have HLEN:=hd (fun W=>Any.bits_Len64 Tryz.laysN129 d W (by omega) (by omega));rw[Int.toNat_natCast,hbl]at HLEN;have HLP:=hd (fun W=>by have h:=lp_any ((i:Int)-348) (by omega) (by omega) W;rw[hlq]at h;exact h);have HU:=hd (fun g w2 h0 h1 h2 W hW=>us_any x u i s g w2 W hi hx hx0 hs63 hu h0 h1 h2 hW);have HS:=hd hs;have HR:=hd (fun W=>by have h:=round_any v (by omega) W;rw[hk]at h;exact h);have HP:=hd (fun W=>pack64_any k K W hk1 hK hK2 r hr);have q4:bits .or .u64 0 (k:Int)=(k:Int):=by
  have:=or_u64 0 k (by decide) (by omega);rw[Nat.zero_or]at this;exact this
 clear hT hlq hbl hs hu hk hr hK;cases sg with
 |false=>
  have hg0:=h0 rfl;have hKe2 : -e=(K:Int)-1074:=(by rw[hKe];simp;omega);clear h0 h1 hKe;go_enter func199,ntmps199;go_wp2_with (first|(go_at_call 113;refine(HLEN.o _).mono ?_;rintro x w ⟨rfl,rfl⟩)|(go_at_call 206;refine(HLP.o _).mono ?_;rintro x w ⟨rfl,rfl⟩))
  obtain⟨g,hgg⟩:∃g,g=w.heap.size:=⟨_,rfl⟩
  have HW2:=hd (pre_world2 g i (e-(64-(b:Int))) lq w HT.o hi hgg (by omega) (by omega) hlq0 hlq1 s HS.o);rw[←hgg];clear hgg;go_wp2_with fail
  refine HW2.o.mono ?_;rintro x w2 ⟨rfl,d0,d1,d2,hbb⟩;have HB2:=hd hbb;have HD:=hd (And.intro d0 (And.intro d1 d2));clear hbb d0 d1;go_wp2_with fail
  refine(HU.o g w2 HD.o.1 HD.o.2.1 HD.o.2.2 _ (Below.refl _ _)).mono ?_;rintro x w3 ⟨rfl,hb3⟩;have HB3:=hd (bel HB2.o hb3);clear hb3 d2;go_wp2_with (first
   |(go_at_call 210;refine(unmin_any _).mono ?_;rintro x w' ⟨rfl,rfl⟩)
   |(go_at_call 209;refine(b2i_any _ _).mono ?_;rintro x w' ⟨rfl,rfl⟩)
   |(go_at_call 212;refine(HR.o _).mono ?_;rintro x w' ⟨rfl,rfl⟩)
   |(go_at_call 215;refine(HP.o _).mono ?_;rintro x w' ⟨rfl,rfl⟩))
  go_ret2;exact⟨HB3.o,rfl⟩
 |true=>
  have hg0:=h1 rfl;have hKe2 : -(e-1)=(K:Int)-1074:=(by rw[hKe];simp;omega);clear h0 h1 hKe;go_enter func199,ntmps199;go_wp2_with (first|(go_at_call 113;refine(HLEN.o _).mono ?_;rintro x w ⟨rfl,rfl⟩)|(go_at_call 206;refine(HLP.o _).mono ?_;rintro x w ⟨rfl,rfl⟩))
  obtain⟨g,hgg⟩:∃g,g=w.heap.size:=⟨_,rfl⟩
  have HW2:=hd (pre_world2 g i (e-(64-(b:Int))) lq w HT.o hi hgg (by omega) (by omega) hlq0 hlq1 s HS.o);rw[←hgg];clear hgg;go_wp2_with fail
  refine HW2.o.mono ?_;rintro x w2 ⟨rfl,d0,d1,d2,hbb⟩;have HB2:=hd hbb;have HD:=hd (And.intro d0 (And.intro d1 d2));clear hbb d0 d1;go_wp2_with fail
  refine(HU.o g w2 HD.o.1 HD.o.2.1 HD.o.2.2 _ (Below.refl _ _)).mono ?_;rintro x w3 ⟨rfl,hb3⟩;have HB3:=hd (bel HB2.o hb3);clear hb3 d2;go_wp2_with (first
   |(go_at_call 210;refine(unmin_any _).mono ?_;rintro x w' ⟨rfl,rfl⟩)
   |(go_at_call 209;refine(b2i_any _ _).mono ?_;rintro x w' ⟨rfl,rfl⟩)
   |(go_at_call 212;refine(HR.o _).mono ?_;rintro x w' ⟨rfl,rfl⟩)
   |(go_at_call 215;refine(HP.o _).mono ?_;rintro x w' ⟨rfl,rfl⟩))
  go_ret2;exact⟨HB3.o,rfl⟩
theorem bitLen_bd (d:Nat)(h0:0<d)(h1:d<18446744073709551616):Lib.bitLen d≤64∧FS.Z (Lib.bitLen d-1)≤d∧d<FS.Z (Lib.bitLen d):=by
 obtain⟨b1,b2,b3⟩:=Lib.bitLenAux_bounds 64 d (by omega) (by omega);exact⟨Lib.bitLen_le d 64 (by decide) h1,b2,b3⟩
theorem or_self_low (u:Nat):u |||u%2=u:=by
 rcases Nat.mod_two_eq_zero_or_one u with c|c
 ·rw[c,Nat.or_zero]
 ·rw[c,FS.or_one,if_neg (by omega)]
theorem lpB:((List.range 696).all fun i:Nat=>decide (-2000≤FS.lp ((i:Int)-348)) && decide (FS.lp ((i:Int)-348)≤2000))=true:=by decide +kernel
theorem parse64_any (d:Nat)(p:Int)(w:World)(hd0:0<d)(hd:d<18446744073709551616)(hp1 : -348≤p)(hp2:p≤347)(hT:Tbl w) :
  Calls prog 199 #[.int .u64 d,.int .i64 p,.int .u64 0] w fun x w'=>∃b,FS.Rnd (FS.vN d p) (FS.vD p) b∧x=.returned (.tuple #[.float .f64 b,erOf b])∧Below w.heap.size w w':=by
 obtain⟨i,rfl,hi⟩:∃i:Nat,p=(i:Int)-348∧i<696:=⟨(p+348).toNat,by omega,by omega⟩
 obtain⟨hb64,hl,hu⟩:Lib.bitLen d≤64∧FS.Z (Lib.bitLen d-1)≤d∧d<FS.Z (Lib.bitLen d):=bitLen_bd d hd0 hd;have hb1:1≤Lib.bitLen d:=by
  rcases Nat.eq_zero_or_pos (Lib.bitLen d) with c|c
  ·rw[c]at hu;have:FS.Z 0=1:=rfl;omega
  ·exact c
 obtain⟨b,hbl⟩:∃b,Lib.bitLen d=b:=⟨_,rfl⟩
 rw[hbl]at hb64 hl hu hb1;obtain⟨lq,hlq⟩:∃lq,FS.lp ((i:Int)-348)=lq:=⟨_,rfl⟩
 have hlqb : -2000≤lq∧lq≤2000:=by
  have h:=List.all_eq_true.1 lpB i (List.mem_range.2 hi);rw[Bool.and_eq_true,decide_eq_true_eq,decide_eq_true_eq,hlq]at h;exact h
 obtain⟨e,he⟩:∃e,min 1074 (53-(b:Int)-lq)=e:=⟨_,rfl⟩
 have heP:FS.eP b ((i:Int)-348)=e:=(by unfold FS.eP;rw[hlq];exact he);have hsP:FS.sP b ((i:Int)-348)=61-b-lq-e:=(by unfold FS.sP;rw[heP,hlq]);have hlq3:lq≤1160:=(by rw[←hlq];unfold FS.lp;omega);have R:=FS.par_rnd hp1 hp2 hb64 hb1 hl hu;by_cases hs:64≤FS.sP b ((i:Int)-348)
 ·have hz:FS.parB d b ((i:Int)-348)=0:=by unfold FS.parB;rw[if_pos hs]
  rw[hz]at R;refine(par64_small d b i lq e w hT hi hd hb64 hbl hlq hlqb.1 hlqb.2 he (by omega) (by omega) (61-b-lq-e).toNat (by omega) (by omega)).mono ?_;rintro x w' ⟨h1,rfl⟩;exact⟨0,R,by unfold erOf;rw[if_neg (by decide)],h1⟩
 ·have h8:8≤61-(b:Int)-lq-e:=by omega
  obtain⟨q1,q2,q3,q4,q5⟩:=FS.q4_rnd (FS.X_pos _) (FS.par_q4 hp1 hp2 hb64 hb1 hl hu) (FS.par_lo hp1 hp2 hb1 hl) (FS.par_hi hp1 hp2 hu);have hx2:d*2^(64-b)<18446744073709551616:=by
   have h:=Nat.mul_lt_mul_of_pos_right hu (Nat.two_pow_pos (64-b));have e:FS.Z b*2^(64-b)=2^64:=(by unfold FS.Z;rw[←Nat.pow_add];congr 1;omega);omega
  have hx3:4611686018427387904≤d*2^(64-b):=by
   have h:FS.Z (b-1)*2^(64-b)≤d*2^(64-b):=Nat.mul_le_mul_right _ hl;have e:FS.Z (b-1)*2^(64-b)=2^63:=(by unfold FS.Z;rw[←Nat.pow_add];congr 1;omega);omega
  rw[hsP]at q1 q2 q3 q4 q5;rw[heP]at q1 q3;generalize hu':FS.cut (d*2^(64-b)) (FS.hiOf ((i:Int)-348)) (FS.loOf ((i:Int)-348)) (61-(b:Int)-lq-e).toNat=u at *;have aa:=and1 u (by omega);refine(par64_core d b i (d*2^(64-b)) u (FS.kSh u) (FS.KSh (1074-e).toNat u) lq e w hT hi hd hb64 hbl (decide ((36028797018963966:Int)≤(u:Int))) hlq hlqb.1 hlqb.2 he (by omega) (by omega) (61-b-lq-e).toNat (by omega) (by omega)
   (by rw[show ((d:Int)*2^(64-b))=((d*2^(64-b):Nat):Int) by push_cast;rfl,IntKind.wrap_u64];omega) hx2 hx3 hu' q4 rfl (FS.uSh u) q5 ?_ ?_ rfl q2 q3 ?_ ?_ _ rfl).mono ?_
  ·intro h
   have h:=of_decide_eq_false h;rw[aa,or_u64 u (u%2) (by omega) (by omega)];unfold FS.uSh;rw[if_neg (by omega),or_self_low]
  ·intro h
   have h:=of_decide_eq_true h;rw[aa,show (u:Int)/2=((u/2:Nat):Int) by omega,or_u64 (u/2) (u%2) (by omega) (by omega)];unfold FS.uSh;rw[if_pos (by omega)]
  ·unfold FS.KSh
   by_cases c:36028797018963966≤u
   ·rw[if_pos c,decide_eq_true (by omega)];simp;omega
   ·rw[if_neg c,decide_eq_false (by omega)];simp;omega
  ·unfold FS.KSh;split<;>omega
  ·rintro x w' ⟨h1,rfl⟩
   exact⟨_,q1,rfl,h1⟩
namespace FS
def tens:List Nat:=[4607182418800017408,4621819117588971520,4636737291354636288,4652007308841189376,4666723172467343360,4681608360884174848,4696837146684686336,4711630319722168320,4726483295884279808,4741671816366391296,4756540486875873280,4771362005757984768,4786511204640096256,4801453603149578240,4816244402031689728,4831355200913801216,4846369599423283200,4861130398305394688,4876203697187506176,4891288408196988160,4906019910204099648,4921056587992461136,4936209963552724370]
def ten (j:Nat):Nat:=tens.getD j 0
theorem allT:((List.range 23).all fun j=>decide (ten j<INF) && (mOf (ten j)*Z (eOf (ten j)+1074).toNat==X j*Z 1074))=true:=by decide +kernel
theorem is_ten {j:Nat}(h:j<23):Is (ten j) (X j):=by
 have:=List.all_eq_true.1 allT j (List.mem_range.2 h);rw[Bool.and_eq_true,decide_eq_true_eq,beq_iff_eq]at this;exact⟨this.1,this.2⟩
theorem kr_pos {x:Nat}(h:x≤INF):FO.kr x=x∧FO.isN x=false:=by
 have h1:x≤9218868437227405312:=h;unfold FO.kr FO.sg FO.isN FO.rg FO.INF;rw[decide_eq_false (by omega),decide_eq_false (by omega)];simp;omega
theorem neg15 {x:Nat}(h:x≤INF):(FloatKind.f64.format.order x 14054727237768577024==some Ordering.lt)=false:=by
 have h1:x≤9218868437227405312:=h;obtain⟨a,b⟩:=kr_pos h;have k:FO.kr 14054727237768577024 = -4831355200913801216:=(by decide);rw[FO.lt_eq (by omega) (by decide),a,b,k,decide_eq_false (by omega)];simp
theorem gt15 {M y:Nat}(R:Rnd M 1 y)(h:1000000000000000<M):(FloatKind.f64.format.order y 4831355200913801216==some Ordering.gt)=true:=by
 have h0:=R.le;have h1:y≤9218868437227405312:=R.le;obtain⟨a,b⟩:=kr_pos h0;have I:=is_fl (m:=1000000000000001) (by decide) (by decide);have e:floatOfInt .f64 ((1000000000000001:Nat):Int)=4831355200913801224:=(by decide +kernel);rw[e]at I;have hm:=Rnd.mono (by decide) (by decide) I.rnd R (by omega);have k:FO.kr 4831355200913801216=4831355200913801216:=(by decide);have n:FO.isN 4831355200913801216=false:=(by decide);rw[FO.gt_eq (by omega) (by decide),a,b,k,n,decide_eq_true (by omega)];rfl
end FS
def Pw10 (w:World):Prop:=∃b off c,w.cell? ⟨9,0,none⟩=some (.slice (some ⟨b,off,none⟩) 23 c)∧∀j,j<23→w.cell? ⟨b,off+j,none⟩=some (.float .f64 (FS.ten j))
theorem Pw10.below {w w':World}(h:Pw10 w)(hb:Below w.heap.size w w'):Pw10 w':=by
 obtain⟨b,off,c,h1,h2⟩:=h;refine⟨b,off,c,?_,fun j hj=>?_⟩
 ·rw[hb.cell (p:=⟨_,0,none⟩) (World.block_lt_of_cell? w _ h1)];exact h1
 ·rw[hb.cell (p:=⟨b,off+j,none⟩) (World.block_lt_of_cell? w _ (h2 j hj))];exact h2 j hj
def ExA (m:Nat)(p:Int)(w:World)(e:Ending)(w':World):Prop:=w=w'∧∃f ok,e=.returned (.tuple #[.float .f64 f,.bool ok])∧(ok=true→FS.Rnd (FS.vN m p) (FS.vD p) f∧m<4503599627370496∧p≤37)
section
variable (m:Nat) (w:World) (G:Glb w) (P:Pw10 w)
include G
theorem exact_big (p:Int)(hm:4503599627370496≤m)(hm2:m<18446744073709551616):Calls prog 198 #[.int .u64 (m:Int),.int .i64 p,.bool false] w (ExA m p w):=by
 have hmI:4503599627370496≤(m:Int):=(by omega);have hmJ:(m:Int)<18446744073709551616:=(by omega);have g1:=G.mb;have q:((m:Int)/4503599627370496!=0)=true:=(by rw[bne_iff_ne];omega);clear G hm hm2;go_enter func198,ntmps198;go_wp2;go_ret2;exact⟨rfl,0,false,rfl,fun h=>by cases h⟩
theorem exact_far (p:Int)(hm:m<4503599627370496)(hp:p < -22∨37<p):Calls prog 198 #[.int .u64 (m:Int),.int .i64 p,.bool false] w (ExA m p w):=by
 have hmI:(m:Int)<4503599627370496:=(by omega);have g1:=G.mb;have q:((m:Int)/4503599627370496!=0)=false:=(by rw[bne_eq_false_iff_eq];omega);generalize hfx:floatOfInt .f64 (m:Int)=x at *;have hp0:(p==0)=false:=(by rw[bf];omega);clear G hm hmI;rcases hp with hp|hp
 all_goals
  go_enter func198,ntmps198;go_wp2;go_ret2;exact⟨rfl,_,false,rfl,fun h=>by cases h⟩
theorem exact_0 (h0:0<m)(hm:m<4503599627370496):Calls prog 198 #[.int .u64 (m:Int),.int .i64 0,.bool false] w (ExA m 0 w):=by
 have I:=FS.is_fl h0 (show m<9007199254740992 by omega);refine(exact0_any m w hm G).mono ?_;rintro e w' ⟨rfl,rfl⟩;refine⟨rfl,_,true,rfl,fun _=>?_⟩;have e:FS.vN m 0=m:=(by unfold FS.vN FS.X;simp);rw[e];exact⟨I.rnd,hm,by decide⟩
include P
theorem exact_pos (h0:0<m)(hm:m<4503599627370496)(j:Nat)(hj0:0<j)(hj:j<23):Calls prog 198 #[.int .u64 (m:Int),.int .i64 (j:Int),.bool false] w (ExA m (j:Int) w):=by
 have I:=FS.is_fl h0 (show m<9007199254740992 by omega);have hmI:(m:Int)<4503599627370496:=(by omega);have g1:=G.mb;have q:((m:Int)/4503599627370496!=0)=false:=(by rw[bne_eq_false_iff_eq];omega);obtain⟨b,off,cp,c0,ct⟩:=P;have c1:=ct j hj;have IT:=FS.is_ten hj;obtain⟨r,hr,R⟩:=I.mul IT (by omega) (by have:=FS.X_pos j;omega);have hM:∀W:World,(binOp .mul 121 (.float .f64 (floatOfInt .f64 (m:Int))) (.float .f64 (FS.ten j))).run prog W=.ok (.float .f64 r) W:=fun W=>run_float_arith W .mul _ .f64 _ _ _ hr
 have hn:=FS.neg15 (Nat.le_of_lt I.lt);generalize hfx:floatOfInt .f64 (m:Int)=x at *;generalize FS.ten j=t at *;have hp0:((j:Int)==0)=false:=(by rw[bf];omega);have HR:Hd (FS.Rnd (FS.vN m (j:Int)) (FS.vD (j:Int)) r∧m<4503599627370496∧(j:Int)≤37):=hd (by
  have e1:FS.vN m (j:Int)=m*FS.X j:=(by unfold FS.vN;rw[Int.toNat_natCast]);have e2:FS.vD (j:Int)=1:=(by unfold FS.vD;rw[show (-(j:Int)).toNat=0 by omega];rfl);rw[e1,e2];exact⟨R,hm,by omega⟩)
 clear G hm hmI h0 I IT ct R;generalize hg:(FloatKind.f64.format.order x 4831355200913801216==some Ordering.gt)=g;cases g with
 |true=>
  go_enter func198,ntmps198;go_wp2;go_ret2;exact⟨rfl,_,false,rfl,fun h=>by cases h⟩
 |false=>
  go_enter func198,ntmps198;go_wp2;go_ret2;exact⟨rfl,_,true,rfl,fun _=>HR.o⟩
theorem exact_neg (h0:0<m)(hm:m<4503599627370496)(j:Nat)(hj0:0<j)(hj:j<23):Calls prog 198 #[.int .u64 (m:Int),.int .i64 (-(j:Int)),.bool false] w (ExA m (-(j:Int)) w):=by
 have I:=FS.is_fl h0 (show m<9007199254740992 by omega);have hmI:(m:Int)<4503599627370496:=(by omega);have g1:=G.mb;have q:((m:Int)/4503599627370496!=0)=false:=(by rw[bne_eq_false_iff_eq];omega);obtain⟨b,off,cp,c0,ct⟩:=P;have c1:=ct j hj;have IT:=FS.is_ten hj;obtain⟨r,hr,R⟩:=I.div IT (by omega) (by have:=FS.X_pos j;omega);have hM:∀W:World,(binOp .quo 121 (.float .f64 (floatOfInt .f64 (m:Int))) (.float .f64 (FS.ten j))).run prog W=.ok (.float .f64 r) W:=fun W=>run_float_arith W .quo _ .f64 _ _ _ hr
 generalize hfx:floatOfInt .f64 (m:Int)=x at *;generalize FS.ten j=t at *;have hp0:(-(j:Int)==0)=false:=(by rw[bf];omega);have hp1:¬ 0 < -(j:Int):=(by omega);have hp2 : -22≤-(j:Int):=(by omega);have hp3 : -(j:Int)<0:=(by omega);have HR:Hd (FS.Rnd (FS.vN m (-(j:Int))) (FS.vD (-(j:Int))) r∧m<4503599627370496∧(-(j:Int))≤37):=hd (by
  have e1:FS.vN m (-(j:Int))=m:=(by unfold FS.vN;rw[show (-(j:Int)).toNat=0 by omega];exact Nat.mul_one m);have e2:FS.vD (-(j:Int))=FS.X j:=(by unfold FS.vD;rw[Int.neg_neg,Int.toNat_natCast]);rw[e1,e2];exact⟨R,hm,by omega⟩)
 clear G hm hmI h0 I IT ct R;go_enter func198,ntmps198;go_wp2;go_ret2;exact⟨rfl,_,true,rfl,fun _=>HR.o⟩
theorem exact_far2 (h0:0<m)(hm:m<4503599627370496)(j:Nat)(hj0:0<j)(hj:j<16)(p:Int)(hpj:p-22=(j:Int)):Calls prog 198 #[.int .u64 (m:Int),.int .i64 p,.bool false] w (ExA m p w):=by
 have I:=FS.is_fl h0 (show m<9007199254740992 by omega);have hmI:(m:Int)<4503599627370496:=(by omega);have g1:=G.mb;have q:((m:Int)/4503599627370496!=0)=false:=(by rw[bne_eq_false_iff_eq];omega);obtain⟨b,off,cp,c0,ct⟩:=P;have c1:=ct j (by omega);have c2:=ct 22 (by decide);have IT:=FS.is_ten (j:=j) (by omega);have I2:=FS.is_ten (j:=22) (by decide);have hX:=FS.X_pos j;obtain⟨y,hy,R⟩:=I.mul IT (by omega) (by omega);have hM1:∀W:World,(binOp .mul 121 (.float .f64 (floatOfInt .f64 (m:Int))) (.float .f64 (FS.ten j))).run prog W=.ok (.float .f64 y) W:=fun W=>run_float_arith W .mul _ .f64 _ _ _ hy
 have hn:=FS.neg15 R.le;generalize hfx:floatOfInt .f64 (m:Int)=x at *;generalize FS.ten j=t at *;generalize FS.ten 22=t2 at *;have hp0:(p==0)=false:=(by rw[bf];omega);have hp1:22<p:=(by omega);have hp2:p≤37:=(by omega);generalize hg:(FloatKind.f64.format.order y 4831355200913801216==some Ordering.gt)=g;cases g with
 |true=>
  clear G hm hmI h0 I IT ct R I2 hX;go_enter func198,ntmps198;go_wp2;go_ret2;exact⟨rfl,_,false,rfl,fun h=>by cases h⟩
 |false=>
  have hMx:m*FS.X j≤1000000000000000:=by
   rcases Nat.lt_or_ge 1000000000000000 (m*FS.X j) with c|c
   ·rw[FS.gt15 R c]at hg;cases hg
   ·exact c
  have hM0:0<m*FS.X j:=Nat.mul_pos h0 hX;have IY:FS.Is y (m*FS.X j):=by
   have:=FS.is_fl hM0 (by omega);rw[this.of_rnd R];exact this
  obtain⟨r,hr,R2⟩:=IY.mul I2 (by omega) (by have:=FS.X_pos 22;omega);have hM2:∀W:World,(binOp .mul 121 (.float .f64 y) (.float .f64 t2)).run prog W=.ok (.float .f64 r) W:=fun W=>run_float_arith W .mul _ .f64 _ _ _ hr
  have HR:Hd (FS.Rnd (FS.vN m p) (FS.vD p) r∧m<4503599627370496∧p≤37):=hd (by
   have e1:FS.vN m p=m*FS.X j*FS.X 22:=(by unfold FS.vN;rw[Nat.mul_assoc,FS.X_mul,show p.toNat=j+22 by omega]);have e2:FS.vD p=1:=(by unfold FS.vD;rw[show (-p).toNat=0 by omega];rfl);rw[e1,e2];exact⟨R2,hm,by omega⟩)
  clear G hm hmI h0 I IT ct R I2 hX hMx hM0 IY R2 hr;go_enter func198,ntmps198;go_wp2;go_ret2;exact⟨rfl,_,true,rfl,fun _=>HR.o⟩
theorem exact_any (p:Int)(h0:0<m)(hm2:m<18446744073709551616):Calls prog 198 #[.int .u64 (m:Int),.int .i64 p,.bool false] w (ExA m p w):=by
 by_cases hm:m<4503599627370496
 ·rcases (show (p < -22∨37<p)∨p=0∨(0<p∧p<23)∨(-23<p∧p<0)∨(22<p∧p<38) by omega) with c|c|c|c|c
  ·exact exact_far m w G p hm c
  ·subst c;exact exact_0 m w G h0 hm
  ·obtain⟨j,rfl⟩:∃j:Nat,p=j:=⟨p.toNat,by omega⟩
   exact exact_pos m w G P h0 hm j (by omega) (by omega)
  ·obtain⟨j,rfl⟩:∃j:Nat,p = -(j:Int):=⟨(-p).toNat,by omega⟩
   exact exact_neg m w G P h0 hm j (by omega) (by omega)
  ·obtain⟨j,hj⟩:∃j:Nat,p-22=(j:Int):=⟨(p-22).toNat,by omega⟩
   exact exact_far2 m w G P h0 hm j (by omega) (by omega) p hj
 ·exact exact_big m w G p (by omega) hm2
end
end Go.Proofs.YtieknenhfeejiaaGreatDoor
