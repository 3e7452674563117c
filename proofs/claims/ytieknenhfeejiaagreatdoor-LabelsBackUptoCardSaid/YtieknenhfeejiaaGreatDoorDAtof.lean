/- (*internal/strconv.decimal).floatBits: the nearest float. (*internal/strconv. .. -/
import Derived.Test.YtieknenhfeejiaaGreatDoorDTwo
import Derived.Scope
import Derived.StillTailTactics
set_option maxRecDepth 100000
set_option maxHeartbeats 4000000
set_option linter.unusedVariables false
set_option linter.unusedSimpArgs false
namespace Go.Proofs.YtieknenhfeejiaaGreatDoor
open _root_.Go.Proofs.Tryz
open Go.RowKit
def ExGoes (P:Program)(c:Code)(Q:Exit→Act→World→Prop):Exit→Act→World→Prop
 | .goto l,a,w=>∃rest,findLabel c l=some rest∧rest.wp P (Exit.noGoto Q) a w
 |e,a,w=>Q e a w
theorem exGoes_ret {P:Program}{c:Code}{Q:Exit→Act→World→Prop}{a:Act}{w:World}:ExGoes P c Q .ret a w=Q .ret a w:=rfl
attribute [go_sem] exGoes_ret
theorem wp_scope_goes {P:Program}{a:Act}{w:World}{Q:Exit→Act→World→Prop}{c:Code}(first:c.wp P (ExGoes P c Q) a w):(Code.scope c).wp P Q a w:=by
 intro b k cs;have again:∀l rest a w,findLabel c l=some rest→rest.wp P (Exit.noGoto Q) a w→∃e a' w',Q e a' w'∧Arrives P (lone (b.at a (.code rest :: .inScope c::k)) cs w) b k cs e a' w':=by
  intro l rest a w hf hw;obtain⟨e,a₁,w₁,hq,harr⟩:=hw b (.inScope c::k) cs;cases e with
  |normal=>exact⟨.normal,a₁,w₁,hq,Steps.trans harr (.one step_inScope)⟩
  |exit id=>exact⟨.exit id,a₁,w₁,hq,fun k' hk=>harr k' (by simp[exitTo,hk])⟩
  |goto l'=>exact hq.elim
  |ret=>exact⟨_,a₁,w₁,hq,harr⟩
  |panic ch=>exact⟨_,a₁,w₁,hq,harr⟩
  |outgrown=>exact⟨_,a₁,w₁,hq,harr⟩
 obtain⟨e,a₁,w₁,hq,harr⟩:=first b (.inScope c::k) cs;cases e with
 |normal=>exact⟨.normal,a₁,w₁,hq,.head step_scope (Steps.trans harr (.one step_inScope))⟩
 |exit id=>exact⟨.exit id,a₁,w₁,hq,fun k' hk=>.head step_scope (harr k' (by simp[exitTo,hk]))⟩
 |goto l=>
  obtain⟨rest,hf,hw⟩:=hq;have hg:gotoIn l (.inScope c::k)=some (.code rest :: .inScope c::k):=(by simp[gotoIn,hf]);obtain⟨e₂,a₂,w₂,hq₂,harr₂⟩:=again l rest a₁ w₁ hf hw;exact⟨e₂,a₂,w₂,hq₂,.of_steps (.head step_scope (harr _ hg)) harr₂⟩
 |ret=>exact⟨_,a₁,w₁,hq,.of_steps (.one step_scope) harr⟩
 |panic ch=>exact⟨_,a₁,w₁,hq,.of_steps (.one step_scope) harr⟩
 |outgrown=>exact⟨_,a₁,w₁,hq,.of_steps (.one step_scope) harr⟩
def pwt (j:Nat):Nat:=[1,3,6,9,13,16,19,23,26].getD j 0
structure Pt (w:World)(b:Nat):Prop where
 ex:∃B o cap,B<b∧8<b∧w.cell? ⟨8,0,none⟩=some (.slice (some ⟨B,o,none⟩) 9 cap)∧∀j,j<9→w.cell? ⟨B,o+j,none⟩=some (.int .i64 (pwt j:Int))
theorem Pt.below {w w':World}{b:Nat}(h:Pt w b)(hb:Below b w w'):Pt w' b:=by
 obtain⟨B,o,cap,h1,h2,h3,h4⟩:=h.ex;exact⟨B,o,cap,h1,h2,by rw[hb.cell (p:=⟨_,0,none⟩) h2];exact h3,fun k hk=>by rw[hb.cell (p:=⟨_,_,none⟩) h1];exact h4 k hk⟩
theorem pwt_all:((List.range 9).all fun j=>decide (1≤pwt j) && decide (pwt j≤27) && (decide (j=0) ||decide (FS.Z (pwt j)≤FS.X j)))=true:=by decide +kernel
theorem pwt_at {j:Nat}(h:j<9):1≤pwt j∧pwt j≤27∧(j≠0→FS.Z (pwt j)≤FS.X j):=by
 have:=List.all_eq_true.1 pwt_all j (List.mem_range.2 h);simp only[Bool.and_eq_true,Bool.or_eq_true,decide_eq_true_eq]at this;exact⟨this.1.1,this.1.2,fun hj=>this.2.resolve_left hj⟩
theorem z27:FS.Z 27≤FS.X 9:=by decide +kernel
structure Fi (w:World)(b:Nat):Prop where
 lt:6<b
 mb:w.cell? ⟨6,0,none⟩=some (.int .u64 52)
 xb:w.cell? ⟨6,1,none⟩=some (.int .u64 11)
 bs:w.cell? ⟨6,2,none⟩=some (.int .i64 (-1023))
theorem Fi.below {w w':World}{b:Nat}(h:Fi w b)(hb:Below b w w'):Fi w' b:=
 ⟨h.lt,by rw[hb.cell (p:=⟨_,0,none⟩) h.lt];exact h.mb,by rw[hb.cell (p:=⟨_,1,none⟩) h.lt];exact h.xb,by rw[hb.cell (p:=⟨_,2,none⟩) h.lt];exact h.bs⟩
def FbA (w:World)(b xh:Nat)(r:Ending)(w':World):Prop:=∃bb:Nat,FS.Rnd xh DN.WW bb∧r=.returned (.tuple #[.int .u64 (bb:Int),.bool (decide (bb=FS.INF))])∧Below b w w'
theorem fba_inf {w w':World}{b xh:Nat}(h:FS.Rnd xh DN.WW FS.INF)(hb:Below b w w'):FbA w b xh (.returned (.tuple #[.int .u64 9218868437227405312,.bool true])) w':=⟨_,h,rfl,hb⟩
theorem fba_fin {w w':World}{b xh bb:Nat}(h:FS.Rnd xh DN.WW bb)(hf:bb<FS.INF)(hb:Below b w w'):FbA w b xh (.returned (.tuple #[.int .u64 (bb:Int),.bool false])) w':=⟨bb,h,by rw[decide_eq_false (by omega)],hb⟩
namespace DN
open FS
attribute [local irreducible] X Z
theorem ov_dp {xh:Nat}{f:Nat→Nat}{nd:Nat}{dp:Int}{tr:Bool}{K:Nat}(S:SS xh (GG K) f nd dp tr 0)(h:310<dp):Rnd xh WW INF:=by
 apply rnd_over WW_pos;refine Nat.le_trans ?_ (Nat.le_trans (S.lo (by omega)) S.kp.le);unfold SV WW;rw[Nat.one_mul];show Z 1024*(X 3000*Z 3000)≤X (dp-1+3000).toNat * Z 3000
 rw[←Nat.mul_assoc];refine Nat.mul_le_mul_right _ ?_;have h1:X 310*X 3000≤X (dp-1+3000).toNat:=(by rw[X_mul];exact X_mono (by omega));exact Nat.le_trans (Nat.mul_le_mul_right _ (Nat.le_of_lt facB.2.2.2)) h1
theorem un_dp {xh:Nat}{f:Nat→Nat}{nd:Nat}{dp:Int}{K:Nat}(S:SS xh (GG K) f nd dp false 0)(hd : -2000≤dp)(h:dp < -330):Rnd xh WW 0:=by
 apply rnd_nil;have e:=S.kp.eq rfl;have h1:=S.hi (by omega);rw[e]at h1;have h2:SV 1 dp 0*Z 1075≤WW:=by
  unfold SV WW;rw[Nat.one_mul];show X (dp+3000).toNat * Z 3000*Z 1075≤X 3000*Z 3000
  rw[Nat.mul_right_comm];refine Nat.mul_le_mul_right _ ?_;have h3:X (dp+3000).toNat * X 331≤X 3000:=(by rw[X_mul];exact X_mono (by omega));exact Nat.le_trans (Nat.mul_le_mul_left _ (Nat.le_of_lt facB.2.2.1)) h3
 exact Nat.lt_of_lt_of_le (Nat.mul_lt_mul_of_pos_right h1 (Z_pos _)) h2
theorem bd_of {xh:Nat}{f:Nat→Nat}{nd:Nat}{dp:Int}{K:Nat}(S:SS xh (GG K) f nd dp false 0)(r1:K=0∨9007199254740992*HH K≤xh)(r2:xh<18014398509481984*HH K)(h1 : -330≤dp)(h2:dp≤310):Bd xh K:=by
 have e:=S.kp.eq rfl;refine⟨r1,r2,?_,?_⟩
 ·rw[←e]
  refine Nat.le_trans ?_ (S.lo (by omega));unfold SV;rw[Nat.one_mul,Nat.one_mul];exact Nat.mul_le_mul_right _ (X_mono (by omega))
 ·rw[←e]
  refine Nat.lt_of_lt_of_le (S.hi (by omega)) ?_;unfold SV;rw[Nat.one_mul,Nat.one_mul];exact Nat.mul_le_mul_right _ (X_mono (by omega))
theorem ov_rung {xh K:Nat}(r1:K=0∨9007199254740992*HH K≤xh)(h:2046≤K):Rnd xh WW INF:=by
 apply rnd_over WW_pos;refine Nat.le_trans ?_ (r1.resolve_left (by omega));unfold HH WW;have e1:Z 1024*(X 3000*Z 3000)=Z (1024+3000)*X 3000:=(by rw[Nat.mul_comm (X 3000),←Nat.mul_assoc,Z_mul]);have e2:Z 53*(Z (K+1925)*X 3000)=Z (53+(K+1925))*X 3000:=(by rw[←Nat.mul_assoc,Z_mul]);rw[Z_53,e1,e2];exact Nat.mul_le_mul_right _ (Z_mono' (by omega))
end DN
namespace DN
theorem and_0 {k:Nat}(h:k<4503599627370496):k &&& 4503599627370496=0:=by
 have e:k=k &&& 4503599627370495:=by
  rw[show (4503599627370495:Nat)=2^52-1 from rfl,Nat.and_two_pow_sub_one_eq_mod,Nat.mod_eq_of_lt h]
 rw[e,Nat.and_assoc,show (4503599627370495:Nat) &&& 4503599627370496=0 by decide,Nat.and_zero]
theorem and_1 {k:Nat}(h:4503599627370496≤k)(h2:k<9007199254740992):k &&& 4503599627370496≠0:=fun h0=>by
 have e:k=k &&& 9007199254740991:=by
  rw[show (9007199254740991:Nat)=2^53-1 from rfl,Nat.and_two_pow_sub_one_eq_mod,Nat.mod_eq_of_lt h2]
 have e2:k &&& 9007199254740991=(k &&& 4503599627370496) |||(k &&& 4503599627370495):=by
  rw[←Nat.and_or_distrib_left];rfl
 rw[h0,Nat.zero_or,show (4503599627370495:Nat)=2^52-1 from rfl,Nat.and_two_pow_sub_one_eq_mod]at e2;have:k%2^52<4503599627370496:=Nat.mod_lt _ (by decide);omega
theorem and_m (k:Nat):k &&& 4503599627370495=k%4503599627370496:=by
 rw[show (4503599627370495:Nat)=2^52-1 from rfl,Nat.and_two_pow_sub_one_eq_mod]
theorem or_52 {b a:Nat}(h:b<4503599627370496):b |||a*4503599627370496=a*4503599627370496+b:=by
 have:=Nat.two_pow_add_eq_or_of_lt (i:=52) h a;rw[Nat.or_comm,Nat.mul_comm];exact this.symm
theorem i2047:((List.range 2048).all fun y:Nat=>bits .and .i64 (y:Int) 2047==(y:Int))=true:=by decide +kernel
theorem and_2047 {y:Nat}(h:y<2048):bits .and .i64 (y:Int) 2047=(y:Int):=by
 have:=List.all_eq_true.1 i2047 y (List.mem_range.2 h);exact beq_iff_eq.1 this
theorem out_eq (m y:Nat)(hm:m<9007199254740993)(hy:y<2048):bits .or .u64 (bits .and .u64 (m:Int) 4503599627370495) (IntKind.u64.wrap (IntKind.u64.wrap (bits .and .i64 (y:Int) 2047)*4503599627370496))=((y*4503599627370496+m%4503599627370496:Nat):Int):=by
 have e1:bits .and .u64 (m:Int) 4503599627370495=((m%4503599627370496:Nat):Int):=by
  rw[←and_m];exact u64_and_nat m 4503599627370495 (by omega) (by decide)
 have e2:IntKind.u64.wrap (IntKind.u64.wrap (y:Int)*4503599627370496)=((y*4503599627370496:Nat):Int):=by
  rw[IntKind.wrap_u64,IntKind.wrap_u64];omega
 have hl:m%4503599627370496<4503599627370496:=Nat.mod_lt _ (by decide);rw[e1,and_2047 hy,e2,←or_52 hl];exact u64_or_nat _ _ (by omega) (by omega)
end DN
structure Fm (xh K:Nat)(w:World)(b:Nat)(dp e:Int):Prop where
 ex:∃f nd tr,Dc w b f nd dp tr∧DN.SS xh (DN.GG K) f nd dp tr e
structure Fn (xh K:Nat)(w:World)(b:Nat)(dp e:Int):Prop where
 ex:∃f nd tr,Dc w b f nd dp tr∧DN.SS xh (DN.GG K) f nd dp tr e∧DN.SV (DN.dvf f nd) (dp-nd) e<DN.SV 1 0 e
theorem Fm.cast {xh K:Nat}{w:World}{b:Nat}{dp e e':Int}(h:Fm xh K w b dp e)(he:e=e'):Fm xh K w b dp e':=by subst he;exact h
theorem ShA.fm {xh K:Nat}{w:World}{b:Nat}{lo hi e:Int}(h:ShA xh K w b lo hi e):∃dp,lo≤dp∧dp≤hi∧Fm xh K w b dp e:=by
 obtain⟨g,m,dp,tr,h1,h2,_,h4,h5⟩:=h.ex;exact⟨dp,h4,h5,⟨g,m,tr,h1,h2⟩⟩
theorem floatBits_any (xh:Nat)(w:World)(b:Nat)(f:Nat→Nat)(nd:Nat)(dp:Int)(D:Dc w b f nd dp false)(hn1:1≤nd)(hn8:nd≤800)(hok:DN.Ok f nd)(hf0:49≤f 0)(hxh:DN.SV (DN.dvf f nd) (dp-nd) 0=xh)(hdp : -2000≤dp)(hdp2:dp≤2000)(L:Lc w b)(P:Pt w b)(G:Fi w b) :
  Calls prog 195 #[.pointer (some ⟨b,0,none⟩),.pointer (some ⟨6,0,none⟩)] w fun r w'=>FbA w b xh r w':=by
 obtain⟨K,r1,r2⟩:=DN.rung xh;have S:DN.SS xh (DN.GG K) f nd dp false 0:=⟨hn1,hn8,hok,hf0,⟨by rw[hxh];exact Nat.le_refl _,fun _=>hxh,(fun h=>by cases h),fun h hh=>by rw[hxh];exact hh⟩⟩
 have c800:=D.cnd;have c801:=D.cdp;have t0:((nd:Int)==0)=false:=(by rw[bf];omega);have HG:=hd G;have HD:=hd D;have HL:=hd L;have HP:=hd P;have HS:=hd S;have HR1:=hd r1;have HR2:=hd r2;clear hxh hok hf0 D L P G S r1 r2;by_cases h310:310<dp
 ·have HF:=hd (DN.ov_dp HS.o h310)
  have c802:=HD.o.cng;have g0:=HG.o.mb;have g1:=HG.o.xb;have g2:=HG.o.bs;go_enter func195,ntmps195;go_wp2_with fail
  apply wp_scope_goes;go_wp2_with fail
  apply wp_goto;show ExGoes _ _ _ (Exit.goto _) _ _
  refine⟨_,rfl,?_⟩;go_wp2_with fail
  go_quiet (fail)
  go_wp2_with fail
  go_step3
  go_wp2_with fail
  go_quiet (fail)
  go_wp2_with fail
  rw[Exit.noGoto_ret];exact bodyPost_ret (v:=.tuple #[.int .u64 9218868437227405312,.bool true]) (by simp[results,Tryz.results195,go_sem];decide) rfl (fba_inf HF.o (bel_drew (Below.refl _ _) _))
 ·by_cases h330:dp < -330
  ·have HF:=hd (DN.un_dp HS.o hdp h330)
   have c802:=HD.o.cng;have g0:=HG.o.mb;have g1:=HG.o.xb;have g2:=HG.o.bs;go_enter func195,ntmps195;go_wp2_with fail
   apply wp_scope_goes;go_wp2_with fail
   apply wp_goto;show ExGoes _ _ _ (Exit.goto _) _ _
   refine⟨_,rfl,?_⟩;go_wp2_with fail
   go_quiet (fail)
   go_wp2_with fail
   rw[Exit.noGoto_ret];exact bodyPost_ret (v:=.tuple #[.int .u64 ((0:Nat):Int),.bool false]) (by simp[results,Tryz.results195,go_sem];decide) rfl (fba_fin HF.o (by decide) (bel_drew (Below.refl _ _) _))
  ·have HB:=hd (DN.bd_of HS.o HR1.o HR2.o (by omega) (by omega))
   have HFm:Hd (Fm xh K w b dp 0):=hd ⟨f,nd,false,HD.o,HS.o⟩;clear HR1 HS HD;go_enter func195,ntmps195;go_wp2_with fail
   apply wp_scope_goes;go_wp2_with fail
   go_loopw [6] (fun x6 wr=>∃E q:Int,0≤E∧E≤1060∧-400≤q∧q≤310∧x6=.int .i64 E∧Hd (E≤DN.jj K)∧Hd (Below b w wr)∧Hd (Fm xh K wr b q E)) (fun x6 _=>(1100-intOf x6).toNat)
   case atStart=>exact⟨0,dp,by omega,by omega,by omega,by omega,rfl,hd (by omega),hd (Below.refl _ _),HFm⟩
   case round=>
    clear HFm c800 c801 t0;obtain⟨E,q,hE0,hE1,hq0,hq1,rfl,HEJ,HBL,HFm⟩:=hrel;obtain⟨g,m,tq,hD,hS⟩:=HFm.o.ex;have HD:=hd hD;have HS:=hd hS;clear hD hS;have c801:=HD.o.cdp;by_cases hpos:0<q
    ·have HEH:=hd (HS.o.e_hi HB.o (by omega) (by omega))
     have hEb:E<1030:=HEH.o.1;have HPT:=HP.o.below HBL.o;obtain⟨B,o,cap,_,_,p0,pj⟩:=HPT.ex;obtain⟨j,rfl⟩:∃j:Nat,q=(j:Int):=⟨q.toNat,by omega⟩
     by_cases h9:9≤j
     ·have h9I:(9:Int)≤(j:Int):=by omega
      have HC:Hd (∀nq,Calls prog 213 #[.pointer (some ⟨b,0,none⟩),.int .i64 (-27)] (wr.drewN nq) fun r w'=>r=.returned (.tuple #[])∧Below b (wr.drewN nq) w'∧ShA xh K w' b ((j:Int)-38) j (E+(27:Nat))):=hd (fun nq=>shiftR_any xh K _ b g m j tq E 27 (HD.o.drew nq) HS.o HR2.o (by decide) (by decide) (by omega) (by omega) (by have:=HEH.o.2;omega) (by omega));clear pj HPT;go_wp2_with fail
      go_quiet (fail)
      go_wp2_with fail
      refine(HC.o _).mono ?_;rintro r w' ⟨rfl,hb,hA⟩;obtain⟨d2,hd1,hd2,hF⟩:=hA.fm;have HB2:=hd ((bel_drew HBL.o _).trans hb);have HF2:=hd hF;clear hb hA hF;go_wp2;go_roundw
      case rel=>exact⟨E+27,d2,by omega,by omega,by omega,by omega,rfl,hd (by have:=HEH.o.2;omega),HB2,HF2⟩
      case measure=>simp[intOf];omega
     ·have h9I:¬ (9:Int)≤(j:Int):=by omega
      have hj9:j<9:=(by omega);have hj9I:(j:Int)<9:=(by omega);have p1:=pj j hj9;obtain⟨hp1,hp2,_⟩:=pwt_at hj9;have HC:=hd (fun nq=>shiftR_any xh K (wr.drewN nq) b g m j tq E (pwt j) (HD.o.drew nq) HS.o HR2.o hp1 (by omega) (by omega) (by omega) (by have:=HEH.o.2;omega) (by omega));generalize pwt j=n at *;clear pj HPT;go_wp2_with fail
      go_quiet (fail)
      go_wp2_with fail
      go_quiet (fail)
      go_wp2_with fail
      refine(HC.o _).mono ?_;rintro r w' ⟨rfl,hb,hA⟩;obtain⟨d2,hd1,hd2,hF⟩:=hA.fm;have HB2:=hd ((bel_drew HBL.o _).trans hb);have HF2:=hd hF;clear hb hA hF;go_wp2;go_roundw
      case rel=>exact⟨E+n,d2,by omega,by omega,by omega,by omega,rfl,hd (by have:=HEH.o.2;omega),HB2,HF2⟩
      case measure=>simp[intOf];omega
    ·have HV:=hd (HS.o.below (by omega) (by omega))
     have HFn:Hd (Fn xh K wr b q E):=hd ⟨g,m,tq,HD.o,HS.o,HV.o⟩;have hq0':q≤0:=(by omega);clear HV HS HD HFm;go_wp2_with fail
     go_loopw [6] (fun x6 wq=>∃E q:Int,E≤1060∧-1110≤E∧-400≤q∧q≤0∧x6=.int .i64 E∧Hd (E≤DN.jj K)∧Hd (Below b w wq)∧Hd (Fn xh K wq b q E)) (fun x6 _=>(intOf x6+1200).toNat)
     case atStart=>exact⟨E,q,by omega,by omega,by omega,by omega,rfl,HEJ,HBL,HFn⟩
     case round=>
      clear HFn c801 HBL HEJ;obtain⟨E,q,hE0,hE1,hq0,hq1,rfl,HEJ,HBL,HFn⟩:=hrel;obtain⟨g,m,tq,hD,hS,hV⟩:=HFn.o.ex;have HD:=hd hD;have HS:=hd hS;have HV:=hd hV;have hEl:=hS.e_lo HB.o hV;clear hD hS hV;have c801:=HD.o.cdp;have c0:=HD.o.dig 0 (by decide);have HPT:=HP.o.below HBL.o;obtain⟨B,o,cap,_,_,p0,pj⟩:=HPT.ex;obtain⟨j,rfl⟩:∃j:Nat,q = -(j:Int):=⟨(-q).toNat,by omega⟩
      have STEP:∀n:Nat,1≤n→n≤27→DN.SV (DN.dvf g m) (-(j:Int)-m) E<DN.SV 1 0 (E-n)→Hd (∀nq,Calls prog 213 #[.pointer (some ⟨b,0,none⟩),.int .i64 (n:Int)] (wr.drewN nq) fun r w'=>r=.returned (.tuple #[])∧Below b (wr.drewN nq) w'∧∃d2:Int,-400≤d2∧d2≤0∧-1105<E-n∧Fn xh K w' b d2 (E-n)):=fun n hn1 hn2 hlt=>hd (fun nq=>(shiftL_any xh K _ b g m _ tq E n (HD.o.drew nq) ((HL.o.below HBL.o).below (bel_drew (Below.refl _ _) nq)) HS.o HR2.o hn1 (by omega) (by omega) (by omega) HEJ.o (by omega)).mono fun r w' ⟨a,c,V⟩=>by
       obtain⟨g',m',d',t',x1,x2,x3,x4,x5,x6⟩:=V.ex;have hlt2:=Nat.lt_of_le_of_lt x6 hlt;have:=x2.dp_le (by omega) hlt2;exact⟨a,c,d',by omega,this,x2.e_lo HB.o hlt2,⟨g',m',t',x1,x2,hlt2⟩⟩)
      have HJ1:Hd (∀n:Nat,E-n≤DN.jj K):=hd (fun n=>by have:=HEJ.o;omega);by_cases hj0:j=0
      ·subst hj0
       have d801:wr.cell? ⟨b,801,none⟩=some (.int .i64 0):=(by simpa using HD.o.cdp);clear c801;by_cases hf5:g 0<53
       ·have HC:=STEP 1 (by decide) (by decide) (by have:=DN.SS.half_lt (e:=E) (by simpa using HS.o) (by omega) (by omega);simpa using this)
        have hf5I:(g 0:Int)<53:=(by omega);have p1:=pj 0 (by decide);have hp:(pwt 0:Int)=1:=(by decide);rw[hp,Nat.add_zero]at p1;clear pj HPT STEP;go_wp2_with fail
        go_quiet (fail)
        go_wp2_with fail
        go_quiet (fail)
        go_wp2_with fail
        refine(HC.o _).mono ?_;rintro r w' ⟨rfl,hb,d2,hd1,hd2,hEn,hF⟩;have HB2:=hd ((bel_drew HBL.o _).trans hb);have HF2:=hd hF;clear hb hF;go_wp2;go_roundw
        case rel=>exact⟨E-1,d2,by omega,by omega,by omega,by omega,rfl,hd (HJ1.o 1),HB2,HF2⟩
        case measure=>simp[intOf];omega
       ·have hf5I:¬ (g 0:Int)<53:=by omega
        have hS0:DN.SS xh (DN.GG K) g m 0 tq E:=(by simpa using HS.o);have hV0:DN.SV (DN.dvf g m) (0-m) E<DN.SV 1 0 E:=(by simpa using HV.o);have HLE:=hd (hS0.half_le (by omega) (by omega));have HS0:=hd hS0;have HV0:=hd hV0;have G1:=HG.o.below HBL.o;have g0:=G1.mb;have g1:=G1.xb;have g2:=G1.bs;clear hS0 hV0 STEP pj p0 HPT G1 HV HS HFn HJ1;go_upto_if 111 with fail
        go_cut [6,10] from 111 to 125 (fun x6 x10 wx=>∃X:Int,x6=.int .i64 X∧-1022≤X∧X≤1060∧Hd ((K:Int)=X+1022)∧Hd (Below b w wx)∧Hd (∃d2,-500≤d2∧d2≤0∧Fm xh K wx b d2 (X+1)))
        case first=>
         by_cases hden:E-1 < -1022
         ·obtain⟨n,rfl⟩:∃n:Nat,E = -1021-(n:Int):=⟨(-1021-E).toNat,by omega⟩
          have HK0:Hd ((K:Int) = -1022+1022):=hd (by
           rcases HS0.o.rung_0 HB.o (by omega) (by omega) HV0.o with h|h
           ·rw[h];rfl
           ·exact h.2.elim)
          have HC:Hd (Calls prog 213 #[.pointer (some ⟨b,0,none⟩),.int .i64 (-(-1022-(-1021-(n:Int)-1)))] wr fun r w'=>r=.returned (.tuple #[])∧Below b wr w'∧ShA xh K w' b (0-38) 0 (-1021-(n:Int)+n)):=hd (by
           have e1 : -(-1022-(-1021-(n:Int)-1)) = -(n:Int):=(by omega);rw[e1];exact shiftR_any xh K wr b g m 0 tq (-1021-(n:Int)) n (by simpa using HD.o) HS0.o HR2.o (by omega) (by omega) (by omega) (by omega) (by omega) (by omega))
          go_wp2_with fail
          with_reducible refine HC.o.mono ?_
          rintro r w' ⟨rfl,hb,hA⟩;obtain⟨d2,hd1,hd2,hF⟩:=hA.fm;have HB2:=hd (HBL.o.trans hb);have HF2:=hd hF;clear hb hA hF;go_wp2;go_meet
          case rel=>exact⟨_,rfl,by omega,by omega,hd (by have:=HK0.o;omega),HB2,hd ⟨d2,by omega,hd2,HF2.o.cast (by omega)⟩⟩
         ·have HK0:Hd ((K:Int)=E+1021):=hd (HS0.o.rung_n HB.o (by omega) HLE.o HV0.o)
          have HF2:Hd (Fm xh K wr b 0 E):=hd ⟨g,m,tq,by simpa using HD.o,HS0.o⟩;go_wp2;go_meet
          case rel=>exact⟨_,rfl,by omega,by omega,hd (by have:=HK0.o;omega),HBL,hd ⟨0,by omega,by omega,HF2.o.cast (by omega)⟩⟩
        case rest=>
         clear HLE HS0 HV0 HD g0 g1 g2 HBL;obtain⟨X,rfl,hX1,hX2,HKX,HBL,HFm⟩:=hcut;obtain⟨d2,hd1,hd2,hF⟩:=HFm.o;obtain⟨g,m,tq,hD,hS⟩:=hF.ex;have HD:=hd hD;have HS:=hd hS;have G1:=HG.o.below HBL.o;have g0:=G1.mb;have g1:=G1.xb;have g2:=G1.bs;have c802:=HD.o.cng;clear hD hS hF HFm G1;by_cases hov:2047≤X+1023
         ·have HF:=hd (DN.ov_rung HB.o.r1 (by have:=HKX.o;omega))
          go_wp2_with fail
          go_quiet (fail)
          go_wp2_with fail
          apply wp_goto;show ExGoes _ _ _ (Exit.goto _) _ _
          refine⟨_,rfl,?_⟩;go_wp2_with fail
          go_quiet (fail)
          go_wp2_with fail
          go_step3
          go_wp2_with fail
          go_quiet (fail)
          go_wp2_with fail
          rw[Exit.noGoto_ret];exact bodyPost_ret (v:=.tuple #[.int .u64 9218868437227405312,.bool true]) (by simp[results,Tryz.results195,go_sem];decide) rfl (fba_inf HF.o (bel_drew HBL.o _))
         ·have hJ:X+1≤DN.jj K:=by
           have:=HKX.o;unfold DN.jj;split<;>omega
          have HC:Hd (∀nq,Calls prog 213 #[.pointer (some ⟨b,0,none⟩),.int .i64 53] (wc.drewN nq) fun r w'=>r=.returned (.tuple #[])∧Below b (wc.drewN nq) w'∧ShV xh K w' b d2 (d2+19) (X+1-(53:Nat)) (DN.SV (DN.dvf g m) (d2-m) (X+1))):=hd (fun nq=>shiftL_any xh K (wc.drewN nq) b g m d2 tq (X+1) 53 (HD.o.drew nq) ((HL.o.below HBL.o).below (bel_drew (Below.refl _ _) nq)) HS.o HR2.o (by decide) (by decide) (by omega) (by omega) hJ (by omega));clear hJ;go_wp2_with fail
          go_quiet (fail)
          go_wp2_with fail
          with_reducible refine(HC.o _).mono ?_
          rintro r w1 ⟨rfl,hb,hA⟩;obtain⟨g',m',d',t',x1,x2,x3,x4,x5,_⟩:=hA.ex;have HB2:=hd ((bel_drew HBL.o _).trans hb);have x2':DN.SS xh (DN.GG K) g' m' d' t' ((K:Int)-1074):=by
           have e1:X+1-((53:Nat):Int)=(K:Int)-1074:=(by have:=HKX.o;omega);rw[←e1];exact x2
          obtain⟨hk,hR,hK52⟩:=DN.rnd_fin x2' x3 (by omega) (by omega) HB.o.r1 HB.o.r2;have HRI:=hd (rint_any w1 b g' m' d' t' x1 x2'.n8 x2'.ok (by omega) (by omega) (Nat.le_trans (by unfold DN.RI;omega) hk));have G1:=HG.o.below HB2.o;have e0:=G1.mb;have e1:=G1.xb;have e2:=G1.bs;have e802:=x1.cng;have HR3:=hd hR;have HK52:=hd hK52;have HKB:=hd hk;clear g0 g1 g2 c802 hb hA x1 x2 x3 x4 x5 x2' hR hK52 G1 HD HS HBL HC hk;generalize DN.RI g' m' d' t'=k at *;go_wp2_with fail
          with_reducible refine HRI.o.mono ?_
          rintro r w' ⟨rfl,rfl⟩;have hKX:(K:Int)=X+1022:=HKX.o;have hov':X+1023<2047:=(by omega);obtain⟨Y,hYX⟩:∃Y:Nat,(Y:Int)=X+1023:=⟨(X+1023).toNat,by omega⟩
          obtain rfl:X=(Y:Int)-1023:=by omega
          have HYK:Hd (Y=K+1):=hd (by omega);have hY:Y<2047:=(by omega);have eX:(Y:Int)-1023+1023=(Y:Int):=(by omega);have eX1:(Y:Int)-1023+1+1023=((Y+1:Nat):Int):=(by omega);clear hov hov' hKX hYX hX1 hX2 HKX;by_cases hk53:k=9007199254740992
          ·subst hk53
           by_cases hov2:Y=2046
           ·subst hov2
            have HF:Hd (FS.Rnd xh DN.WW FS.INF):=hd (by
             have h1:=HR3.o;have h2:=HYK.o;rw[Nat.min_eq_right (by unfold FS.INF;omega)]at h1;exact h1)
            go_wp2_with fail
            go_quiet (fail)
            go_wp2_with fail
            apply wp_goto;show ExGoes _ _ _ (Exit.goto _) _ _
            refine⟨_,rfl,?_⟩;go_wp2_with fail
            go_quiet (fail)
            go_wp2_with fail
            go_step3
            go_wp2_with fail
            go_quiet (fail)
            go_wp2_with fail
            rw[Exit.noGoto_ret];exact bodyPost_ret (v:=.tuple #[.int .u64 9218868437227405312,.bool true]) (by simp[results,Tryz.results195,go_sem];decide) rfl (fba_inf HF.o (bel_drew HB2.o _))
           ·have HF:Hd (FS.Rnd xh DN.WW ((Y+1)*4503599627370496)∧(Y+1)*4503599627370496<FS.INF):=hd (by
             have h1:=HR3.o;have h2:=HYK.o;rw[Nat.min_eq_left (by unfold FS.INF;omega),show K*4503599627370496+9007199254740992=(Y+1)*4503599627370496 by omega]at h1;exact⟨h1,by unfold FS.INF;omega⟩)
            have hov3:¬ 2047≤(Y:Int)+1:=(by omega);go_wp2_with fail
            go_quiet (fail)
            go_wp2_with fail
            apply wp_goto;show ExGoes _ _ _ (Exit.goto _) _ _
            refine⟨_,rfl,?_⟩;go_wp2_with fail
            go_quiet (fail)
            go_wp2_with fail
            rw[Exit.noGoto_ret];exact bodyPost_ret (v:=.tuple #[.int .u64 (((Y+1)*4503599627370496:Nat):Int),.bool false]) (by simp[results,Tryz.results195,go_sem];simpa using DN.out_eq 4503599627370496 (Y+1) (by decide) (by omega)) rfl (fba_fin HF.o.1 HF.o.2 (bel_drew HB2.o _))
          ·have tk:((k:Int)==9007199254740992)=false:=by rw[bf];omega
           have hkb:k<9007199254740992:=(by have:=HKB.o;omega);by_cases h52:k<4503599627370496
           ·have HF:Hd (FS.Rnd xh DN.WW k∧k<FS.INF):=hd (by
             have h1:=HR3.o;have h2:=HK52.o.resolve_right (by omega);rw[h2,Nat.zero_mul,Nat.zero_add,Nat.min_eq_left (by unfold FS.INF;omega)]at h1;exact⟨h1,by unfold FS.INF;omega⟩)
            have b1:bits .and .u64 (k:Int) 4503599627370496=0:=by
             rw[show (0:Int)=((0:Nat):Int) from rfl,←DN.and_0 h52];exact u64_and_nat k 4503599627370496 (by omega) (by decide)
            have HO:=hd (DN.out_eq k 0 (by omega) (by decide));have HKM:Hd (k%4503599627370496=k):=hd (Nat.mod_eq_of_lt h52);clear hk53 hkb h52;go_wp2_with fail
            apply wp_goto;show ExGoes _ _ _ (Exit.goto _) _ _
            refine⟨_,rfl,?_⟩;go_wp2_with fail
            go_quiet (fail)
            go_wp2_with fail
            rw[Exit.noGoto_ret];exact bodyPost_ret (v:=.tuple #[.int .u64 (k:Int),.bool false]) (by simp[results,Tryz.results195,go_sem];have h:=HO.o;rw[HKM.o]at h;simpa using h) rfl (fba_fin HF.o.1 HF.o.2 (bel_drew HB2.o _))
           ·have HF:Hd (FS.Rnd xh DN.WW (Y*4503599627370496+k%4503599627370496)∧Y*4503599627370496+k%4503599627370496<FS.INF):=hd (by
             have h1:=HR3.o;have h2:=HYK.o;rw[Nat.min_eq_left (by unfold FS.INF;omega),show K*4503599627370496+k=Y*4503599627370496+k%4503599627370496 by omega]at h1;exact⟨h1,by unfold FS.INF;omega⟩)
            obtain⟨z,hz⟩:∃z,z=k &&& 4503599627370496:=⟨_,rfl⟩
            have b1:bits .and .u64 (k:Int) 4503599627370496=(z:Int):=by
             rw[hz];exact u64_and_nat k 4503599627370496 (by omega) (by decide)
            have b2:((z:Int)==0)=false:=(by rw[bf];have:=DN.and_1 (k:=k) (by omega) hkb;omega);have HO:=hd (DN.out_eq k Y (by omega) (by omega));clear hk53 hkb h52 hz;go_wp2_with fail
            apply wp_goto;show ExGoes _ _ _ (Exit.goto _) _ _
            refine⟨_,rfl,?_⟩;go_wp2_with fail
            go_quiet (fail)
            go_wp2_with fail
            rw[Exit.noGoto_ret];exact bodyPost_ret (v:=.tuple #[.int .u64 ((Y*4503599627370496+k%4503599627370496:Nat):Int),.bool false]) (by simp[results,Tryz.results195,go_sem];have h:=HO.o;simpa using h) rfl (fba_fin HF.o.1 HF.o.2 (bel_drew HB2.o _))
      ·obtain⟨hjp,hjI⟩:0<j∧-(j:Int)<0:=by omega
       by_cases h9:9≤j
       ·have h9I:(9:Int)≤(j:Int):=by omega
        have HC:=STEP 27 (by decide) (by decide) (HS.o.room (by omega) (by omega) (by rw[show (-(-(j:Int))).toNat=j by omega];exact Nat.le_trans z27 (FS.X_mono h9)) (by omega));clear pj HPT STEP;go_wp2_with fail
        go_quiet (fail)
        go_wp2_with fail
        refine(HC.o _).mono ?_;rintro r w' ⟨rfl,hb,d2,hd1,hd2,hEn,hF⟩;have HB2:=hd ((bel_drew HBL.o _).trans hb);have HF2:=hd hF;clear hb hF;go_wp2;go_roundw
        case rel=>exact⟨E-27,d2,by omega,by omega,by omega,by omega,rfl,hd (HJ1.o 27),HB2,HF2⟩
        case measure=>simp[intOf];omega
       ·have h9I:¬ (9:Int)≤(j:Int):=by omega
        have hj9:j<9:=(by omega);have hj9I:(j:Int)<9:=(by omega);have p1:=pj j hj9;obtain⟨hp1,hp2,hp3⟩:=pwt_at hj9;have HC:=STEP (pwt j) hp1 hp2 (HS.o.room (by omega) (by omega) (by rw[show (-(-(j:Int))).toNat=j by omega];exact hp3 hj0) (by omega));generalize pwt j=n at *;clear pj HPT STEP hp3;go_wp2_with fail
        go_quiet (fail)
        go_wp2_with fail
        go_quiet (fail)
        go_wp2_with fail
        refine(HC.o _).mono ?_;rintro r w' ⟨rfl,hb,d2,hd1,hd2,hEn,hF⟩;have HB2:=hd ((bel_drew HBL.o _).trans hb);have HF2:=hd hF;clear hb hF;go_wp2;go_roundw
        case rel=>exact⟨E-n,d2,by omega,by omega,by omega,by omega,rfl,hd (HJ1.o n),HB2,HF2⟩
        case measure=>simp[intOf];omega
end Go.Proofs.YtieknenhfeejiaaGreatDoor
namespace Go.Proofs.YtieknenhfeejiaaGreatDoor
open _root_.Go.Proofs.Tryz
open Go.RowKit
theorem DN.set_ng (f:Nat→Nat)(nd:Nat)(dp:Int)(tr:Bool):(DN.dcl f nd dp tr).set 802 (.bool false)=DN.dcl f nd dp tr:=DN.set_tail f _ 2 _
theorem Dc.sng {w:World}{b:Nat}{f:Nat→Nat}{nd:Nat}{dp:Int}{tr:Bool}(D:Dc w b f nd dp tr):Dc (w.setCell ⟨b,802,none⟩ (.bool false)) b f nd dp tr:=⟨by have:=D.k.set 802 (.bool false);rw[DN.set_ng]at this;exact this⟩
structure SetI (w:World)(b:Nat)(nd:Nat)(dp:Int)(l:List UInt8):Prop where
 ex:∃f,Dc w b f nd dp false∧DN.Ok f nd∧(0<nd→49≤f 0)∧DN.dvf f nd=(PF.mf l PF.ls0).D
theorem take_next (s:ByteArray)(k:Nat)(h:k<s.size):s.data.toList.take (k+1)=s.data.toList.take k++[s[k]'h]:=by
 have h1:=data_drop' s k h;have h2:k<s.data.toList.length:=(by rw[←Lib.size_eq];exact h);have h3:=List.drop_eq_getElem_cons h2;rw[h1]at h3;injection h3 with h4 _
 rw[List.take_succ_eq_append_getElem h2,h4]
theorem PF.mf_next (s:ByteArray)(k:Nat)(h:k<s.size)(Q:PF.LS):PF.mf (s.data.toList.take (k+1)) Q=PF.mst (PF.mf (s.data.toList.take k) Q) (s[k]'h).toNat:=by
 rw[take_next s k h,PF.mf_app];rfl
theorem PF.mst_D (Q:PF.LS)(c:Nat)(h:c≠46):(PF.mst Q c).D=Q.D*10+(c-48):=by unfold PF.mst;rw[if_neg h]
theorem PF.mst_dot (Q:PF.LS):(PF.mst Q 46).D=Q.D:=by unfold PF.mst;rw[if_pos rfl]
theorem DN.dvf_upd (f:Nat→Nat)(nd c:Nat):DN.dvf (DN.upd f nd c) (nd+1)=DN.dvf f nd*10+(c-48):=by
 rw[DN.dvf,DN.dvf_congr (f:=DN.upd f nd c) (g:=f) nd (fun i hi=>by unfold DN.upd;rw[if_neg (by omega)])];unfold DN.upd;rw[if_pos rfl]
theorem set_any (s:ByteArray)(st:PF.St)(r:List UInt8)(w:World)(b:Nat)(f:Nat→Nat)(Dd:PF.Dec s st r)(D:Dc w b f 0 0 false) :
  Calls prog 194 #[.pointer (some ⟨b,0,none⟩),.string s] w fun e w'=>e=.returned (.bool true)∧Below b w w'∧∃k,s.data.toList.drop k=r∧SetI w' b st.nd (PF.dpOf st+PF.expOf r) (s.data.toList.take k):=by
 have HD:=hd Dd;have HSZ:=hd (Lib.size_eq s);have hs:=Dd.sz;have h0:0<s.size:=by
  rcases Nat.eq_zero_or_pos s.size with c|c
  ·exfalso
   have h1:=Dd.lp;have h2:=Dd.sg;have:s.data.toList=[]:=List.eq_nil_of_length_eq_zero (by rw[←Lib.size_eq];exact c);rw[this]at h1;have:st=PF.st0:=(congrArg Prod.fst h1).symm;rw[this]at h2;cases h2
  ·exact c
 have t43:(((s[0]).toNat:Int)==43)=false:=(by rw[bf];have:=(Dd.n0 h0).1;omega);have t45:(((s[0]).toNat:Int)==45)=false:=(by rw[bf];have:=(Dd.n0 h0).2;omega);have hne:¬ s=ByteArray.empty:=fun h=>by subst h;exact absurd h0 (by decide)
 have c802:=D.cng;have c803:=D.ctr;have z802:=D.fz 802;have z803:=D.fz 803;have HS0:Hd (SetI ((w.setCell ⟨b,802,none⟩ (.bool false)).setCell ⟨b,803,none⟩ (.bool false)) b 0 0 []):=hd ⟨f,D.sng.str false,fun i hi=>absurd hi (by omega),fun h=>absurd h (by omega),rfl⟩;have HB0:Hd (Below b w ((w.setCell ⟨b,802,none⟩ (.bool false)).setCell ⟨b,803,none⟩ (.bool false))):=hd (((Below.refl b w).setCell (p:=⟨b,802,none⟩) (Nat.le_refl _) _).setCell (p:=⟨b,803,none⟩) (Nat.le_refl _) _);clear Dd D;go_enter func194,ntmps194
 go_upto_block 1 with fail
 go_cut [5,6,7] from 34 to 116 (fun x5 x6 x7 wx=>∃k:Nat,k≤s.size∧x5=.int .i64 (k:Int)∧x6=.bool st.sd∧x7=.bool true∧Hd (s.data.toList.drop k=r)∧Hd (Below b w wx)∧Hd (SetI wx b st.nd st.dp (s.data.toList.take k)))
 case first=>
  go_wp2_with fail
  go_loopw [5,6,7] (fun x5 x6 x7 wr=>∃(k:Nat) (q:PF.St),k≤s.size∧x5=.int .i64 (k:Int)∧x6=.bool q.sd∧x7=.bool q.sg∧Hd (PF.Bd q k)∧Hd (PF.loop (s.data.toList.drop k) q=(st,r))∧Hd (Below b w wr)∧Hd (SetI wr b q.nd q.dp (s.data.toList.take k))) (fun x5 x6 x7 wr=>s.size-(intOf x5).toNat)
  case atStart=>exact⟨0,PF.st0,Nat.zero_le _,rfl,rfl,rfl,hd PF.Bd.start,hd HD.o.lp,HB0,HS0⟩
  case round=>
   clear c802 c803 z802 z803 HB0 HS0 t43 t45;obtain⟨k,⟨m,nd,nm,dp,sd,sg,tr⟩,hk,rfl,rfl,rfl,HB,HL,HBL,HSI⟩:=hrel;obtain⟨g,hD,hok,hg0,hv⟩:=HSI.o.ex;have hD:Dc wr b g nd dp false:=hD;have hok:DN.Ok g nd:=hok;have hg0:0<nd→49≤g 0:=hg0;have hv:DN.dvf g nd=(PF.mf (s.data.toList.take k) PF.ls0).D:=hv;have HDC:=hd hD;have HOK:=hd hok;have HG0:=hd hg0;have HV:=hd hv;have c800:=hD.cnd;have c801:=hD.cdp;have z800:=hD.fz 800;have z801:=hD.fz 801;clear hD hok hg0 hv;by_cases hlt:k<s.size
   ·have HDR:=hd (data_drop' s k hlt)
    have hc:(s[k]'hlt).toNat<256:=(s[k]'hlt).toNat_lt;have t95:(((s[k]'hlt).toNat:Int)==95)=false:=(by rw[bf];have:=HD.o.nu _ (mem_data hlt);omega);have YES:∀q',PF.step ⟨m,nd,nm,dp,sd,sg,tr⟩ (s[k]'hlt).toNat=some q'→Hd (PF.loop (s.data.toList.drop (k+1)) q'=(st,r))∧Hd (PF.Bd q' (k+1)):=fun q' h=>⟨hd (by rw[←HL.o,HDR.o,PF.loop_some h]),hd (HB.o.step h)⟩
    have NO:PF.step ⟨m,nd,nm,dp,sd,sg,tr⟩ (s[k]'hlt).toNat=none→st=⟨m,nd,nm,dp,sd,sg,tr⟩∧s.data.toList.drop k=r:=fun h=>by
     have h1:=HL.o;rw[HDR.o,PF.loop_none h]at h1;have h2:s[k]::List.drop (k+1) s.data.toList=r:=congrArg Prod.snd h1;exact⟨(congrArg Prod.fst h1).symm,by rw[HDR.o];exact h2⟩
    have hnd1:nd≤k:=HB.o.nd;have hnm1:nm≤19:=HB.o.nm;have hdp1 : -(k:Int)≤dp:=HB.o.dl;have hdp2:dp≤(k:Int):=HB.o.du;have HMF:=hd (PF.mf_next s k hlt PF.ls0);by_cases c46:(s[k]'hlt).toNat=46
    ·have t46:(((s[k]'hlt).toNat:Int)==46)=true:=by rw[c46];rfl
     cases sd with
     |true=>
      exfalso;obtain⟨h1,h2⟩:=NO (by unfold PF.step;rw[if_pos c46];rfl);have h3:=HD.o.ex;rw[←h2,HDR.o]at h3;have:=h3.1;omega
     |false=>
      obtain⟨H1,H2⟩:=YES _ (by unfold PF.step;rw[if_pos c46];rfl);have HS2:Hd (SetI (wr.setCell ⟨b,801,none⟩ (.int .i64 (nd:Int))) b nd nd (s.data.toList.take (k+1))):=hd ⟨g,HDC.o.sdp nd,HOK.o,HG0.o,by rw[HMF.o,c46,PF.mst_dot];exact HV.o⟩;clear YES NO c46;go_wp2;go_roundw
      case rel=>exact⟨k+1,_,by omega,by go_num,rfl,rfl,H2,H1,hd (HBL.o.setCell (p:=⟨b,801,none⟩) (Nat.le_refl _) _),HS2⟩
      case measure=>simp[intOf];omega
    ·have t46:(((s[k]'hlt).toNat:Int)==46)=false:=by rw[bf];omega
     by_cases cd:48≤(s[k]'hlt).toNat∧(s[k]'hlt).toNat≤57
     ·by_cases cz:(s[k]'hlt).toNat=48∧nd=0
      ·obtain⟨H1,H2⟩:=YES _ (by unfold PF.step;rw[if_neg c46,if_pos cd,if_pos cz])
       have t48:(((s[k]'hlt).toNat:Int)==48)=true:=(by rw[cz.1];rfl);obtain⟨cd1,cd2⟩:=cd;obtain⟨cz1,cz2⟩:=cz;subst cz2;have HS2:Hd (SetI (wr.setCell ⟨b,801,none⟩ (.int .i64 (dp-1))) b 0 (dp-1) (s.data.toList.take (k+1))):=hd ⟨g,HDC.o.sdp (dp-1),HOK.o,HG0.o,by
        rw[HMF.o,PF.mst_D _ _ c46,cz1,←HV.o];rfl⟩
       clear YES NO c46 cz1;go_wp2;go_roundw
       case rel=>exact⟨k+1,_,by omega,by go_num,rfl,rfl,H2,H1,hd (HBL.o.setCell (p:=⟨b,801,none⟩) (Nat.le_refl _) _),HS2⟩
       case measure=>simp[intOf];omega
      ·have tz:((((s[k]'hlt).toNat:Int)==48)=true∧((nd:Int)==0)=false)∨(((s[k]'hlt).toNat:Int)==48)=false:=by
        by_cases e:(s[k]'hlt).toNat=48
        ·left;exact⟨by rw[e];rfl,by rw[bf];omega⟩
        ·right;rw[bf];omega
       have H12:Hd (∃q':PF.St,q'.nd=nd+1∧q'.dp=dp∧q'.sd=sd∧q'.sg=true∧PF.loop (s.data.toList.drop (k+1)) q'=(st,r)∧PF.Bd q' (k+1)):=hd (by
        by_cases c19:nm<19
        ·obtain⟨H1,H2⟩:=YES _ (by unfold PF.step;rw[if_neg c46,if_pos cd,if_neg cz,if_pos c19])
         exact⟨_,rfl,rfl,rfl,rfl,H1.o,H2.o⟩
        ·obtain⟨H1,H2⟩:=YES _ (by unfold PF.step;rw[if_neg c46,if_pos cd,if_neg cz,if_neg c19])
         exact⟨_,rfl,rfl,rfl,rfl,H1.o,H2.o⟩)
       have H49:Hd (nd=0→49≤(s[k]'hlt).toNat):=hd (fun h=>by
        have:(s[k]'hlt).toNat≠48:=fun e=>cz ⟨e,h⟩
        omega)
       obtain⟨cd1,cd2⟩:=cd;have hnd8:nd<800:=(by omega);have hnd8I:(nd:Int)<800:=(by omega);have zn:=HDC.o.fz nd;have cn:=HDC.o.dig nd hnd8;have HS2:Hd (SetI ((wr.drew.setCell ⟨b,nd,none⟩ (.int .u8 ((s[k]'hlt).toNat:Int))).setCell ⟨b,800,none⟩ (.int .i64 ((nd+1:Nat):Int))) b (nd+1) dp (s.data.toList.take (k+1))):=hd (by
        refine⟨DN.upd g nd (s[k]'hlt).toNat,((HDC.o.drew 1).sdig nd _ hnd8).snd (nd+1),fun i hi=>?_,fun _=>?_,?_⟩
        ·unfold DN.upd
         split
         ·exact⟨cd1,cd2⟩
         ·exact HOK.o i (by omega)
        ·unfold DN.upd
         split
         ·rename_i h;exact H49.o h.symm
         ·exact HG0.o (by omega)
        ·rw[DN.dvf_upd,HMF.o,PF.mst_D _ _ c46,HV.o])
       have HB2:Hd (Below b w ((wr.drew.setCell ⟨b,nd,none⟩ (.int .u8 ((s[k]'hlt).toNat:Int))).setCell ⟨b,800,none⟩ (.int .i64 ((nd+1:Nat):Int)))):=hd ((HBL.o.drew.setCell (p:=⟨b,nd,none⟩) (Nat.le_refl _) _).setCell (p:=⟨b,800,none⟩) (Nat.le_refl _) _);clear YES NO c46 cz HL HB HSI HMF H49;rcases tz with ⟨tz1,tz2⟩|tz1
       all_goals
        go_wp2_with fail
        go_still_tail 11,(by kernel_rfl)
        change wpList _ _ _ _ _ wr.drew
        go_wp2;obtain⟨q',e1,e2,e3,e4,e5,e6⟩:=H12.o;go_roundw
        case rel=>exact⟨k+1,q',by omega,by go_num,by rw[e3],by rw[e4],hd e6,hd e5,HB2,hd (by rw[e1,e2];exact HS2.o)⟩
        case measure=>simp[intOf];omega
     ·obtain⟨h1,h2⟩:=NO (by unfold PF.step;rw[if_neg c46,if_neg cd])
      have h3:(s[k]'hlt).toNat=101∨(s[k]'hlt).toNat=69:=by
       have h3:=HD.o.ex;rw[←h2,HDR.o]at h3;exact h3.1
      have c57:57<(s[k]'hlt).toNat:=(by omega);have c48:48≤(s[k]'hlt).toNat:=(by omega);subst h1;have hsg:sg=true:=HD.o.sg;subst hsg;have HR:=hd h2;clear YES NO c46 cd h3 HL h2 HB HMF;go_wp2;go_meet
      case rel=>exact⟨k,by omega,rfl,rfl,rfl,HR,HBL,HSI⟩
   ·obtain rfl:k=s.size:=by omega
    have HX:Hd (st=⟨m,nd,nm,dp,sd,sg,tr⟩∧s.data.toList.drop s.size=r):=hd (by
     have h1:=HL.o;rw[List.drop_eq_nil_of_le (by have:=HSZ.o;omega)]at h1 ⊢;exact⟨(congrArg Prod.fst h1).symm,congrArg Prod.snd h1⟩)
    obtain⟨h1,h2⟩:=HX.o;subst h1;have hsg:sg=true:=HD.o.sg;subst hsg;have HR:=hd h2;clear h2 HL HB HX;go_wp2;go_meet
    case rel=>exact⟨s.size,by omega,rfl,rfl,rfl,HR,HBL,HSI⟩
 case rest=>
  clear c802 c803 z802 z803 HB0 HS0 t43 t45;obtain⟨k,hk,rfl,rfl,rfl,HR,HBL,HSI⟩:=hcut;go_upto_if 120 with fail
  go_cut [6,7] from 117 to 127 (fun x6 x7 wx=>x7=.bool true∧Hd (Below b w wx)∧Hd (SetI wx b st.nd (PF.dpOf st) (s.data.toList.take k)))
  case first=>
   obtain⟨g,hD,hok,hg0,hv⟩:=HSI.o.ex;have HDC:=hd hD;have HOK:=hd hok;have HG0:=hd hg0;have HV:=hd hv;have c800:=hD.cnd;have c801:=hD.cdp;have z801:=hD.fz 801;clear hD hok hg0 hv;cases hsd:st.sd with
   |true=>
    have HE:Hd (PF.dpOf st=st.dp):=hd (by unfold PF.dpOf;rw[hsd];rfl);clear hsd;go_wp2;go_meet
    case rel=>exact⟨rfl,HBL,hd (by rw[HE.o];exact HSI.o)⟩
   |false=>
    have HE:Hd (PF.dpOf st=st.nd):=hd (by unfold PF.dpOf;rw[hsd];rfl);have HS2:Hd (SetI (wc.setCell ⟨b,801,none⟩ (.int .i64 (st.nd:Int))) b st.nd (st.nd:Int) (s.data.toList.take k)):=hd ⟨g,HDC.o.sdp st.nd,HOK.o,HG0.o,HV.o⟩;clear hsd;go_wp2;go_meet
    case rel=>exact⟨rfl,hd (HBL.o.setCell (p:=⟨b,801,none⟩) (Nat.le_refl _) _),hd (by rw[HE.o];exact HS2.o)⟩
  case rest=>
   rename_i wc0
   obtain⟨rfl,HBL,HSI⟩:=hcut;obtain⟨g,hD,hok,hg0,hv⟩:=HSI.o.ex;obtain⟨dq,hdq⟩:∃dq,dq=PF.dpOf st:=⟨_,rfl⟩
   obtain⟨nq,hnq⟩:∃nq,nq=st.nd:=⟨_,rfl⟩
   rw[←hdq,←hnq]at hD;rw[←hnq]at hok hg0 hv;have HDQ:=hd hdq;have HNQ:=hd hnq;have HDC:=hd hD;have HOK:=hd hok;have HG0:=hd hg0;have HV:=hd hv;have c801:=hD.cdp;have z801:=hD.fz 801;have hEX:=HD.o.ex;obtain⟨kb,hkb,hBd⟩:=dec_bd HD.o;have hdpo1 : -2000≤dq:=(by rw[hdq];unfold PF.dpOf;have:=hBd.dl;split<;>omega);have hdpo2:dq≤2000:=(by rw[hdq];unfold PF.dpOf;have:=hBd.du;have:=hBd.nd;split<;>omega);clear hD hok hg0 hv HSI hBd hdq hnq;by_cases hke:k=s.size
   ·subst hke
    have HE:Hd (dq+PF.expOf r=dq):=hd (by
     rw[←HR.o,List.drop_eq_nil_of_le (by have:=HSZ.o;omega)];exact Int.add_zero _)
    go_wp2;go_ret;exact⟨rfl,HBL.o,s.size,HR.o,⟨g,by rw[←HNQ.o,←HDQ.o,HE.o];exact HDC.o,by rw[←HNQ.o];exact HOK.o,by rw[←HNQ.o];exact HG0.o,by rw[←HNQ.o];exact HV.o⟩⟩
   ·have hlt:k<s.size:=by omega
    have HDR:=hd (data_drop' s k hlt);have hc:(s[k]'hlt).toNat<256:=(s[k]'hlt).toNat_lt;have EX:((s[k]'hlt).toNat=101∨(s[k]'hlt).toNat=69)∧0<((s.data.toList.drop (k+1)).drop (PN.sgl (s.data.toList.drop (k+1)))).length∧∀x∈(s.data.toList.drop (k+1)).drop (PN.sgl (s.data.toList.drop (k+1))),48≤x.toNat∧x.toNat≤57:=by
     rw[←HR.o,HDR.o]at hEX;exact hEX
    have hk1:k+1<s.size:=(by have:=EX.2.1;rw[List.length_drop,List.length_drop,←HSZ.o]at this;omega);have t101:((PF.low (s[k]'hlt).toNat:Int)==101)=true:=(by have:=((PF.low_at hc).2.2.1).2 EX.1;rw[this];rfl);have HD1:=hd (data_drop' s (k+1) hk1);have hc1:(s[k+1]'hk1).toNat<256:=(s[k+1]'hk1).toNat_lt;clear hEX hke;by_cases c1:(s[k+1]'hk1).toNat=43
    ·have t1:(((s[k+1]'hk1).toNat:Int)==43)=true:=by rw[c1];rfl
     have hS:PN.sgl (s.data.toList.drop (k+1))=1:=(by rw[HD1.o,PN.sgl_cons,if_pos (.inl c1)]);have HJ:Hd (∀x∈s.data.toList.drop (k+1+1),48≤x.toNat∧x.toNat≤57):=hd (by have:=EX.2.2;rw[hS]at this;simpa[List.drop_drop] using this);have hjl:k+1+1<s.size:=(by have:=EX.2.1;rw[hS,List.length_drop,List.length_drop,←HSZ.o]at this;omega);have hj0:=HJ.o _ (by rw[data_drop' s (k+1+1) hjl];exact List.mem_cons_self ..);have hjc:(s[k+1+1]'hjl).toNat<256:=(s[k+1+1]'hjl).toNat_lt;obtain⟨hj1,hj2⟩:=hj0;obtain⟨E0,hE0⟩:∃E0,E0=PF.eloop (s.data.toList.drop (k+1+1)) 0:=⟨_,rfl⟩
     have HE0:=hd hE0;have HX:Hd (PF.expOf r=(E0:Int)*(1)):=hd (by rw[←HR.o,HDR.o,hE0];show (PF.eloop ((s.data.toList.drop (k+1)).drop (PN.sgl (s.data.toList.drop (k+1)))) 0:Int)*_=_;rw[hS,List.drop_drop];congr 1;rw[HD1.o];simp[c1]);clear hE0 EX hS;go_wp2_with (go_at_call 204;refine(lower_any _ _ hc).mono ?_;rintro e w' ⟨rfl,rfl⟩)
     go_loop [5,9] (fun xi xe=>∃(j e:Nat),k+1+1≤j∧j≤s.size∧e≤110000∧xi=.int .i64 (j:Int)∧xe=.int .i64 (e:Int)∧Hd (PF.eloop (s.data.toList.drop j) e=E0)) (fun xi xe=>s.size-(intOf xi).toNat)
     case atStart=>exact⟨k+1+1,0,Nat.le_refl _,by omega,by decide,by go_num,rfl,hd HE0.o.symm⟩
     case round=>
      obtain⟨j,e,hjk,hjs,he,rfl,rfl,HEL⟩:=hrel;by_cases hjlt:j<s.size
      ·have HDj:=hd (data_drop' s j hjlt)
       have hjc2:(s[j]'hjlt).toNat<256:=(s[j]'hjlt).toNat_lt;obtain⟨d1,d2⟩:=HJ.o (s[j]'hjlt) (by
        have:s.data.toList.drop j=(s.data.toList.drop (k+1+1)).drop (j-(k+1+1)):=(by rw[List.drop_drop];congr 1;omega);exact List.mem_of_mem_drop (i:=j-(k+1+1)) (by rw[←this,HDj.o];exact List.mem_cons_self ..))
       have u95:(((s[j]'hjlt).toNat:Int)==95)=false:=(by rw[bf];omega);by_cases he1:e<10000
       ·have H2:Hd (PF.eloop (s.data.toList.drop (j+1)) (e*10+((s[j]'hjlt).toNat-48))=E0):=hd (by rw[←HEL.o,HDj.o];rw[PF.eloop_cons,if_pos he1])
        clear HEL HDj;go_wp2
        go_round
        case rel=>exact⟨j+1,_,by omega,by omega,by omega,by go_num,by go_num,H2⟩
        case measure=>simp[intOf];omega
       ·have H2:Hd (PF.eloop (s.data.toList.drop (j+1)) e=E0):=hd (by rw[←HEL.o,HDj.o];rw[PF.eloop_cons,if_neg he1])
        clear HEL HDj;go_wp2
        go_round
        case rel=>exact⟨j+1,_,by omega,by omega,he,by go_num,rfl,H2⟩
        case measure=>simp[intOf];omega
      ·obtain rfl:j=s.size:=by omega
       have HEE:Hd (e=E0):=hd (by have:=HEL.o;rw[List.drop_eq_nil_of_le (by have:=HSZ.o;omega)]at this;exact this);clear HEL;go_wp2_with fail
       go_ret;exact⟨rfl,HBL.o.setCell (p:=⟨b,801,none⟩) (Nat.le_refl _) _,k,HR.o,⟨g,by rw[←HNQ.o,←HDQ.o,HX.o,←HEE.o];first|exact HDC.o.sdp _|(have h:=HDC.o.sdp (dq+(e:Int)*(1));simpa using h),by rw[←HNQ.o];exact HOK.o,by rw[←HNQ.o];exact HG0.o,by rw[←HNQ.o];exact HV.o⟩⟩
    ·have t1:(((s[k+1]'hk1).toNat:Int)==43)=false:=by rw[bf];omega
     by_cases c2:(s[k+1]'hk1).toNat=45
     ·have t2:(((s[k+1]'hk1).toNat:Int)==45)=true:=by rw[c2];rfl
      have hS:PN.sgl (s.data.toList.drop (k+1))=1:=(by rw[HD1.o,PN.sgl_cons,if_pos (.inr c2)]);have HJ:Hd (∀x∈s.data.toList.drop (k+1+1),48≤x.toNat∧x.toNat≤57):=hd (by have:=EX.2.2;rw[hS]at this;simpa[List.drop_drop] using this);have hjl:k+1+1<s.size:=(by have:=EX.2.1;rw[hS,List.length_drop,List.length_drop,←HSZ.o]at this;omega);have hj0:=HJ.o _ (by rw[data_drop' s (k+1+1) hjl];exact List.mem_cons_self ..);have hjc:(s[k+1+1]'hjl).toNat<256:=(s[k+1+1]'hjl).toNat_lt;obtain⟨hj1,hj2⟩:=hj0;obtain⟨E0,hE0⟩:∃E0,E0=PF.eloop (s.data.toList.drop (k+1+1)) 0:=⟨_,rfl⟩
      have HE0:=hd hE0;have HX:Hd (PF.expOf r=(E0:Int)*(-1)):=hd (by rw[←HR.o,HDR.o,hE0];show (PF.eloop ((s.data.toList.drop (k+1)).drop (PN.sgl (s.data.toList.drop (k+1)))) 0:Int)*_=_;rw[hS,List.drop_drop];congr 1;rw[HD1.o];simp[c2]);clear hE0 EX hS;go_wp2_with (go_at_call 204;refine(lower_any _ _ hc).mono ?_;rintro e w' ⟨rfl,rfl⟩)
      go_loop [5,9] (fun xi xe=>∃(j e:Nat),k+1+1≤j∧j≤s.size∧e≤110000∧xi=.int .i64 (j:Int)∧xe=.int .i64 (e:Int)∧Hd (PF.eloop (s.data.toList.drop j) e=E0)) (fun xi xe=>s.size-(intOf xi).toNat)
      case atStart=>exact⟨k+1+1,0,Nat.le_refl _,by omega,by decide,by go_num,rfl,hd HE0.o.symm⟩
      case round=>
       obtain⟨j,e,hjk,hjs,he,rfl,rfl,HEL⟩:=hrel;by_cases hjlt:j<s.size
       ·have HDj:=hd (data_drop' s j hjlt)
        have hjc2:(s[j]'hjlt).toNat<256:=(s[j]'hjlt).toNat_lt;obtain⟨d1,d2⟩:=HJ.o (s[j]'hjlt) (by
         have:s.data.toList.drop j=(s.data.toList.drop (k+1+1)).drop (j-(k+1+1)):=(by rw[List.drop_drop];congr 1;omega);exact List.mem_of_mem_drop (i:=j-(k+1+1)) (by rw[←this,HDj.o];exact List.mem_cons_self ..))
        have u95:(((s[j]'hjlt).toNat:Int)==95)=false:=(by rw[bf];omega);by_cases he1:e<10000
        ·have H2:Hd (PF.eloop (s.data.toList.drop (j+1)) (e*10+((s[j]'hjlt).toNat-48))=E0):=hd (by rw[←HEL.o,HDj.o];rw[PF.eloop_cons,if_pos he1])
         clear HEL HDj;go_wp2
         go_round
         case rel=>exact⟨j+1,_,by omega,by omega,by omega,by go_num,by go_num,H2⟩
         case measure=>simp[intOf];omega
        ·have H2:Hd (PF.eloop (s.data.toList.drop (j+1)) e=E0):=hd (by rw[←HEL.o,HDj.o];rw[PF.eloop_cons,if_neg he1])
         clear HEL HDj;go_wp2
         go_round
         case rel=>exact⟨j+1,_,by omega,by omega,he,by go_num,rfl,H2⟩
         case measure=>simp[intOf];omega
       ·obtain rfl:j=s.size:=by omega
        have HEE:Hd (e=E0):=hd (by have:=HEL.o;rw[List.drop_eq_nil_of_le (by have:=HSZ.o;omega)]at this;exact this);clear HEL;go_wp2_with fail
        go_ret;exact⟨rfl,HBL.o.setCell (p:=⟨b,801,none⟩) (Nat.le_refl _) _,k,HR.o,⟨g,by rw[←HNQ.o,←HDQ.o,HX.o,←HEE.o];first|exact HDC.o.sdp _|(have h:=HDC.o.sdp (dq+(e:Int)*(-1));simpa using h),by rw[←HNQ.o];exact HOK.o,by rw[←HNQ.o];exact HG0.o,by rw[←HNQ.o];exact HV.o⟩⟩
     ·have t2:(((s[k+1]'hk1).toNat:Int)==45)=false:=by rw[bf];omega
      have hS:PN.sgl (s.data.toList.drop (k+1))=0:=(by rw[HD1.o,PN.sgl_cons,if_neg (fun h=>h.elim c1 c2)]);have HJ:Hd (∀x∈s.data.toList.drop (k+1),48≤x.toNat∧x.toNat≤57):=hd (by have:=EX.2.2;rw[hS]at this;simpa[List.drop_drop] using this);have hjl:k+1<s.size:=(by have:=EX.2.1;rw[hS,List.length_drop,List.length_drop,←HSZ.o]at this;omega);have hj0:=HJ.o _ (by rw[data_drop' s (k+1) hjl];exact List.mem_cons_self ..);have hjc:(s[k+1]'hjl).toNat<256:=(s[k+1]'hjl).toNat_lt;obtain⟨hj1,hj2⟩:=hj0;obtain⟨E0,hE0⟩:∃E0,E0=PF.eloop (s.data.toList.drop (k+1)) 0:=⟨_,rfl⟩
      have HE0:=hd hE0;have HX:Hd (PF.expOf r=(E0:Int)*(1)):=hd (by rw[←HR.o,HDR.o,hE0];show (PF.eloop ((s.data.toList.drop (k+1)).drop (PN.sgl (s.data.toList.drop (k+1)))) 0:Int)*_=_;rw[hS,List.drop_drop];congr 1;rw[HD1.o];simp[c2]);clear hE0 EX hS;go_wp2_with (go_at_call 204;refine(lower_any _ _ hc).mono ?_;rintro e w' ⟨rfl,rfl⟩)
      go_loop [5,9] (fun xi xe=>∃(j e:Nat),k+1≤j∧j≤s.size∧e≤110000∧xi=.int .i64 (j:Int)∧xe=.int .i64 (e:Int)∧Hd (PF.eloop (s.data.toList.drop j) e=E0)) (fun xi xe=>s.size-(intOf xi).toNat)
      case atStart=>exact⟨k+1,0,Nat.le_refl _,by omega,by decide,by go_num,rfl,hd HE0.o.symm⟩
      case round=>
       obtain⟨j,e,hjk,hjs,he,rfl,rfl,HEL⟩:=hrel;by_cases hjlt:j<s.size
       ·have HDj:=hd (data_drop' s j hjlt)
        have hjc2:(s[j]'hjlt).toNat<256:=(s[j]'hjlt).toNat_lt;obtain⟨d1,d2⟩:=HJ.o (s[j]'hjlt) (by
         have:s.data.toList.drop j=(s.data.toList.drop (k+1)).drop (j-(k+1)):=(by rw[List.drop_drop];congr 1;omega);exact List.mem_of_mem_drop (i:=j-(k+1)) (by rw[←this,HDj.o];exact List.mem_cons_self ..))
        have u95:(((s[j]'hjlt).toNat:Int)==95)=false:=(by rw[bf];omega);by_cases he1:e<10000
        ·have H2:Hd (PF.eloop (s.data.toList.drop (j+1)) (e*10+((s[j]'hjlt).toNat-48))=E0):=hd (by rw[←HEL.o,HDj.o];rw[PF.eloop_cons,if_pos he1])
         clear HEL HDj;go_wp2
         go_round
         case rel=>exact⟨j+1,_,by omega,by omega,by omega,by go_num,by go_num,H2⟩
         case measure=>simp[intOf];omega
        ·have H2:Hd (PF.eloop (s.data.toList.drop (j+1)) e=E0):=hd (by rw[←HEL.o,HDj.o];rw[PF.eloop_cons,if_neg he1])
         clear HEL HDj;go_wp2
         go_round
         case rel=>exact⟨j+1,_,by omega,by omega,he,by go_num,rfl,H2⟩
         case measure=>simp[intOf];omega
       ·obtain rfl:j=s.size:=by omega
        have HEE:Hd (e=E0):=hd (by have:=HEL.o;rw[List.drop_eq_nil_of_le (by have:=HSZ.o;omega)]at this;exact this);clear HEL;go_wp2_with fail
        go_ret;exact⟨rfl,HBL.o.setCell (p:=⟨b,801,none⟩) (Nat.le_refl _) _,k,HR.o,⟨g,by rw[←HNQ.o,←HDQ.o,HX.o,←HEE.o];first|exact HDC.o.sdp _|(have h:=HDC.o.sdp (dq+(e:Int)*(1));simpa using h),by rw[←HNQ.o];exact HOK.o,by rw[←HNQ.o];exact HG0.o,by rw[←HNQ.o];exact HV.o⟩⟩
theorem Lc.mono {w:World}{b b':Nat}(h:Lc w b)(hb:b≤b'):Lc w b':=by
 obtain⟨B,o,cap,h1,h2,h3⟩:=h.ex;exact⟨B,o,cap,by omega,by omega,h3⟩
theorem Pt.mono {w:World}{b b':Nat}(h:Pt w b)(hb:b≤b'):Pt w b':=by
 obtain⟨B,o,cap,h1,h2,h3⟩:=h.ex;exact⟨B,o,cap,by omega,by omega,h3⟩
structure Nm2 (w:World):Prop where
 n:Nms w
 lc:Lc w w.heap.size
 pt:Pt w w.heap.size
theorem Nm2.below {w w':World}(h:Nm2 w)(hb:Below w.heap.size w w'):Nm2 w':=⟨h.n.below hb,(h.lc.below hb).mono hb.size,(h.pt.below hb).mono hb.size⟩
theorem fi_of {w:World}(G:Glb w):Fi w w.heap.size:=⟨World.block_lt_of_cell? w _ G.mb,G.mb,G.xb,G.bs⟩
namespace DN
open FS
attribute [local irreducible] X Z
theorem rnd_back {D:Nat}{q:Int}{bb:Nat}(hq : -3000≤q)(h:Rnd (SV D q 0) WW bb):Rnd (vN D q) (vD q) bb:=by
 refine Rnd.of_eq WW_pos (X_pos _) ?_ h;unfold SV WW vN vD;have e1:X (q+3000).toNat * X (-q).toNat=X q.toNat * X 3000:=(by rw[X_mul,X_mul];exact congrArg X (by omega));show D*X (q+3000).toNat * Z 3000*X (-q).toNat=D*X q.toNat * (X 3000*Z 3000)
 have e2:D*X (q+3000).toNat * Z 3000*X (-q).toNat=D*(X (q+3000).toNat * X (-q).toNat)*Z 3000:=(by ac_rfl);have e3:D*X q.toNat * (X 3000*Z 3000)=D*(X q.toNat * X 3000)*Z 3000:=(by ac_rfl);rw[e2,e3,e1]
theorem rnd_mid {D m j:Nat}{p q:Int}{bb:Nat}(hp:p=q+j)(hm:m=D/10^j)(h1:Rnd (vN m p) (vD p) bb)(h2:Rnd (vN (m+1) p) (vD p) bb):Rnd (vN D q) (vD q) bb:=by
 have hP:0<10^j:=Nat.pow_pos (by decide);refine(h1.shift hp).between (h2.shift hp) ?_ ?_
 ·unfold vN
  refine Nat.mul_le_mul_right _ ?_;rw[hm];exact Nat.div_mul_le_self _ _
 ·unfold vN
  refine Nat.mul_le_mul_right _ ?_;have:=Nat.div_add_mod D (10^j);have h3:=Nat.mod_lt D hP;rw[hm,Nat.add_mul,Nat.one_mul,Nat.mul_comm (D/10^j)];omega
end DN
theorem inf_fl {b:Nat}(h:b≤FS.INF):FO.isN b=false∧FO.kr b=(b:Int):=by
 unfold FO.isN FO.kr FO.rg FO.sg FO.INF;unfold FS.INF at h;have e:b%9223372036854775808=b:=Nat.mod_eq_of_lt (by omega);rw[e];exact⟨decide_eq_false (by omega),by rw[decide_eq_false (by omega)];rfl⟩
theorem eq_fl {a b:Nat}(ha:a≤FS.INF)(hb:b≤FS.INF):(FloatKind.f64.format.order a b==some Ordering.eq)=decide (a=b):=by
 have h1:=inf_fl ha;have h2:=inf_fl hb;unfold FS.INF at ha hb;rw[FO.eq_eq (by omega) (by omega),h1.1,h2.1,h1.2,h2.2];simp[Int.natCast_inj]
theorem heap_new (w:World)(o:Obj):(w.alloc o).heap[w.heap.size]?=some o:=by
 show (w.heap.push o)[w.heap.size]?=some o
 rw[Array.getElem?_push,if_pos rfl]
theorem zero_dcl:Tryz.zeroCells231=(DN.dcl (fun _=>0) 0 0 false).toArray:=by kernel_rfl
theorem dc_new (w:World):Dc (w.alloc (Obj.cells Tryz.zeroCells231 231)) w.heap.size (fun _=>0) 0 0 false:=by
 refine⟨?_⟩;unfold Bk;rw[zero_dcl];exact heap_new w _
theorem atof_slow (s:ByteArray)(st:PF.St)(r:List UInt8)(w:World)(Dd:PF.Dec s st r)(htr:st.tr=true)(N:Nm2 w)(Q:PF.LS)(I:PF.Inv st Q)(hQ:∀k,s.data.toList.drop k=r→(PF.mf (s.data.toList.take k) PF.ls0).D=Q.D) :
  Calls prog 183 #[.string s] w fun e w'=>Below w.heap.size w w'∧∃b,PVal Q.D (PF.expOf r-Q.b) b∧e=.returned (.tuple #[.float .f64 b,.int .i64 (s.size:Int),erOf b]):=by
 obtain⟨h0,hc⟩:=first_ok Dd;obtain⟨kk,hkk,B⟩:=dec_bd Dd;have hm64:=B.m64;have hnd:19<st.nd∧st.nm=19:=by
  have h1:=I.tr;rw[htr]at h1;have h2:Q.D%10^(st.nd-st.nm)≠0:=of_decide_eq_true h1.symm;have h3:=I.nm;rcases Nat.lt_or_ge 19 st.nd with c|c
  ·exact⟨c,by omega⟩
  ·exfalso
   rw[show st.nd-st.nm=0 by omega,Nat.pow_zero,Nat.mod_one]at h2;exact h2 rfl
 obtain⟨j,hj⟩:∃j,j=st.nd-19:=⟨_,rfl⟩
 have hm:st.m=Q.D/10^j:=(by rw[I.m,hnd.2,hj]);have hD0:10^(st.nd-1)≤Q.D:=I.lo (by omega);have hm0:0<st.m:=by
  rw[hm];refine Nat.div_pos (Nat.le_trans (Nat.pow_le_pow_right (by decide) (by omega)) hD0) (Nat.pow_pos (by decide))
 have hDp:0<Q.D:=Nat.lt_of_lt_of_le (Nat.pow_pos (by decide)) hD0;obtain⟨q,hq⟩:∃q:Int,q=PF.expOf r-Q.b:=⟨_,rfl⟩
 have hp:PF.ansE st r=q+j:=by
  unfold PF.ansE;rw[if_neg (by omega),I.dp,hq,hnd.2];omega
 have hdq:PF.dpOf st+PF.expOf r=q+st.nd:=(by rw[I.dp,hq];omega);have HS:=hd (special_no s w h0 hc);have HR:=hd (readDec_any s st r w Dd);have g1:=N.n.g.opt;have HB2:=hd (bool2_no w);rw[htr]at HR;have HSET:=hd (fun w b f D=>set_any s st r w b f Dd D);have HQ:=hd hQ;have HDQ:=hd hdq;have hnd6:st.nd≤600:=(by have:=B.nd;omega);have HND:=hd (And.intro hnd.1 hnd6);rw[←hq];clear hq hQ hdq Dd B htr hc I hnd hD0 hkk hnd6;generalize PF.ansE st r=p at *;generalize st.m=m at *;have HN:=hd N;have HMID:=hd (fun bb h1 h2=>DN.rnd_mid (bb:=bb) hp hm h1 h2);have HP:=hd hp;have HDp:=hd hDp
 have qI:∀w,(callFunc 197 #[.int .u64 9218868437227405312]).run prog w=.ok (.value (.float .f64 9218868437227405312)) w:=frombits_run 9218868437227405312
 have q0:∀w,(callFunc 197 #[.int .u64 0]).run prog w=.ok (.value (.float .f64 0)) w:=frombits_run 0
 have o0:bits .or .u64 0 0=0:=(by decide);have oI:bits .or .u64 0 9218868437227405312=9218868437227405312:=(by decide);have t0:((m:Int)==0)=false:=(by rw[bf];omega);clear hp hm N hDp;by_cases pb:310<p
 ·have HV:Hd (PVal Q.D q FS.INF):=hd (.inr ⟨HDp.o,HMID.o _ (FS.big_rnd hm0 pb) (FS.big_rnd (by omega) pb)⟩)
  have e0:Hd (erOf FS.INF=.iface 201 (.int .i64 1)):=hd er_inf;clear hm64 hm0;go_enter func183,ntmps183;go_wp2_with (first|(go_at_call 187;refine HS.o.mono ?_;rintro e w' ⟨rfl,rfl⟩)|(go_at_call 188;refine HR.o.mono ?_;rintro e w' ⟨rfl,rfl⟩)|(go_at_call 196;refine HB2.o.mono ?_;rintro e w' ⟨rfl,rfl⟩))
  refine bodyPost_ret (v:=.tuple #[.float .f64 9218868437227405312,.int .i64 (s.size:Int),.iface 201 (.int .i64 1)]) (by simp[results,Tryz.results183,go_sem]) rfl ⟨Below.refl _ _,FS.INF,HV.o,by rw[e0.o];rfl⟩
 ·by_cases ps:p < -345
  ·have HV:Hd (PVal Q.D q 0):=hd (.inr ⟨HDp.o,HMID.o _ (FS.tiny_rnd (by omega) ps) (FS.tiny_rnd (by omega) ps)⟩)
   have e0:Hd (erOf 0=.nilIface):=hd (er_no (by decide));clear hm64 hm0;go_enter func183,ntmps183;go_wp2_with (first|(go_at_call 187;refine HS.o.mono ?_;rintro e w' ⟨rfl,rfl⟩)|(go_at_call 188;refine HR.o.mono ?_;rintro e w' ⟨rfl,rfl⟩)|(go_at_call 196;refine HB2.o.mono ?_;rintro e w' ⟨rfl,rfl⟩))
   refine bodyPost_ret (v:=.tuple #[.float .f64 0,.int .i64 (s.size:Int),.nilIface]) (by simp[results,Tryz.results183,go_sem]) rfl ⟨Below.refl _ _,0,HV.o,by rw[e0.o]⟩
  ·have HP1:=hd (parse64_any m p w (by omega) (by omega) (by omega) (by omega) HN.o.n.t)
   have HP2:Hd (∀w',Below w.heap.size w w'→Calls prog 199 #[.int .u64 ((m:Int)+1),.int .i64 p,.int .u64 0] w' fun x w2=>∃b,FS.Rnd (FS.vN (m+1) p) (FS.vD p) b∧x=.returned (.tuple #[.float .f64 b,erOf b])∧Below w'.heap.size w' w2):=hd (fun w' hb=>parse64_any (m+1) p w' (by omega) (by omega) (by omega) (by omega) (HN.o.below hb).n.t);have wm:IntKind.u64.wrap ((m:Int)+1)=(m:Int)+1:=(by rw[IntKind.wrap_u64];omega);clear hm64 hm0;go_enter func183,ntmps183
   go_wp2_with (first|(go_at_call 187;refine HS.o.mono ?_;rintro e w' ⟨rfl,rfl⟩)|(go_at_call 188;refine HR.o.mono ?_;rintro e w' ⟨rfl,rfl⟩)|(go_at_call 196;refine HB2.o.mono ?_;rintro e w' ⟨rfl,rfl⟩)|(go_at_call 199;refine HP1.o.mono ?_;rintro e w1 ⟨b1,hR1,rfl,hB1⟩;have HR1:=hd hR1;have HBB:=hd hB1;clear hR1 hB1;revert HBB))
   intro HBB;go_wp2_with fail
   refine(HP2.o _ HBB.o).mono ?_;rintro e w2 ⟨b2,hR2,rfl,hB2⟩;have HR2:=hd hR2;have HBC:=hd (HBB.o.trans (hB2.mono HBB.o.size));have HEQ:=hd (eq_fl HR1.o.le hR2.le);clear hR2 hB2;by_cases hbb:b1=b2
   ·subst hbb
    have tE:(FloatKind.f64.format.order b1 b1==some Ordering.eq)=true:=(by rw[HEQ.o];exact decide_eq_true rfl);have HV:Hd (PVal Q.D q b1):=hd (.inr ⟨HDp.o,HMID.o _ HR1.o HR2.o⟩);go_wp2_with fail
    refine bodyPost_ret (v:=.tuple #[.float .f64 b1,.int .i64 (s.size:Int),erOf b1]) (by simp[results,Tryz.results183,go_sem]) rfl ⟨HBC.o,b1,HV.o,rfl⟩
   ·have tE:(FloatKind.f64.format.order b1 b2==some Ordering.eq)=false:=by rw[HEQ.o];exact decide_eq_false hbb
    go_wp2_with fail
    refine(HSET.o _ _ (fun _=>0) (dc_new w2)).mono ?_;rintro e w3 ⟨rfl,hb3,k,hk,hSI⟩;obtain⟨f,hD,hok,hf0,hv⟩:=hSI.ex;have hW2:Below w2.heap.size w2 w3:=((Below.refl w2.heap.size w2).alloc (Nat.le_refl _) _).trans hb3;have N3:=HN.o.below (HBC.o.trans (hW2.mono HBC.o.size));have N2:=HN.o.below HBC.o
    have HFB:=hd (floatBits_any (DN.SV (DN.dvf f st.nd) (PF.dpOf st+PF.expOf r-st.nd) 0) w3 w2.heap.size f st.nd _ hD (by have:=HND.o.1;omega) (by have:=HND.o.2;omega) hok (hf0 (by have:=HND.o.1;omega)) rfl (by have:=HDQ.o;have:=HND.o;have:=HP.o;omega) (by have:=HDQ.o;have:=HND.o;have:=HP.o;omega) (N2.lc.below hW2) (N2.pt.below hW2) ((fi_of N2.n.g).below hW2));have HB3:=hd (HBC.o.trans (hW2.mono HBC.o.size));have hxe:DN.SV (DN.dvf f st.nd) (PF.dpOf st+PF.expOf r-st.nd) 0=DN.SV Q.D q 0:=by
     rw[hv,HQ.o k hk,HDQ.o,show q+(st.nd:Int)-st.nd=q by omega]
    rw[hxe]at HFB;clear hb3 hk hSI hD hok hf0 hv hW2 N3 N2 hxe;go_wp2_with fail
    refine HFB.o.mono ?_;rintro e w4 ⟨bb,hR,rfl,hb4⟩;have HB4:=hd (HB3.o.trans (hb4.mono HBC.o.size));have HV:Hd (PVal Q.D q bb):=hd (.inr ⟨HDp.o,DN.rnd_back (by have:=HP.o;have:=HND.o;omega) hR⟩);have HRL:=hd hR.le;have hfb:∀W,(callFunc 197 #[.int .u64 bb]).run prog W=.ok (.value (.float .f64 bb)) W:=frombits_run bb
    clear hR hb4;by_cases hI:bb=FS.INF
    ·have tI:decide (bb=FS.INF)=true:=decide_eq_true hI
     have HE:Hd (erOf bb=.iface 201 (.int .i64 1)):=hd (by rw[hI];exact er_inf);rw[tI];clear tI hI;go_wp2_with fail
     refine bodyPost_ret (v:=.tuple #[.float .f64 bb,.int .i64 (s.size:Int),.iface 201 (.int .i64 1)]) (by simp[results,Tryz.results183,go_sem]) rfl ⟨HB4.o,bb,HV.o,by rw[HE.o]⟩
    ·have tI:decide (bb=FS.INF)=false:=decide_eq_false hI
     have HE:Hd (erOf bb=.nilIface):=hd (er_no (by have:=HRL.o;omega));rw[tI];clear tI hI;go_wp2_with fail
     refine bodyPost_ret (v:=.tuple #[.float .f64 bb,.int .i64 (s.size:Int),.nilIface]) (by simp[results,Tryz.results183,go_sem]) rfl ⟨HB4.o,bb,HV.o,by rw[HE.o]⟩
theorem atof_dec (s:ByteArray)(st:PF.St)(r a:List UInt8)(w:World)(Dd:PF.Dec s st r)(e:s.data.toList=a++r)(I:PF.Inv st (PF.mf a PF.ls0))(N:Nm2 w) :
  Calls prog 183 #[.string s] w fun x w'=>Below w.heap.size w w'∧∃b,PVal (PF.mf a PF.ls0).D (PF.expOf r-(PF.mf a PF.ls0).b) b∧x=.returned (.tuple #[.float .f64 b,.int .i64 (s.size:Int),erOf b]):=by
 cases htr:st.tr with
 |false=>exact(atof_fast s st r w Dd htr N.n).mono fun x w' ⟨hb,b,h,h2⟩=>⟨hb,b,pv_val I htr h,h2⟩
 |true=>
  refine atof_slow s st r w Dd htr N (PF.mf a PF.ls0) I fun k hk=>?_
  have h1:s.data.toList=s.data.toList.take k++r:=by
   have:=(List.take_append_drop k s.data.toList).symm;rw[hk]at this;exact this
  have h2:s.data.toList.take k=a:=List.append_cancel_right (h1.symm.trans e);rw[h2]
end Go.Proofs.YtieknenhfeejiaaGreatDoor
