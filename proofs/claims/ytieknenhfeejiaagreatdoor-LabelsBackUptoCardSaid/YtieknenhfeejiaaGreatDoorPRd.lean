/- strconv.ParseFloat whatever it answers; math.IsInf; num.small; num.Read over .. -/
import Derived.Test.YtieknenhfeejiaaGreatDoorPAlive
set_option maxRecDepth 100000
set_option maxHeartbeats 4000000
set_option linter.unusedVariables false
set_option linter.unusedSimpArgs false
namespace Go.Proofs.YtieknenhfeejiaaGreatDoor
open _root_.Go.Proofs.Tryz
open Go.RowKit
theorem rangeErr_any (fn s:ByteArray)(w:World)(hs:s.size≤1000)(N:Nms w) :
  Calls prog 177 #[.string fn,.string s] w fun e w'=>(∃n,e=.returned (.pointer (some ⟨n,0,none⟩)))∧Below w.heap.size w w':=by
 obtain⟨te,pe,hc⟩:=N.e;exact(Any.strconv_rangeError Tryz.laysM280 fn s _ w (by omega) hc (.inr ⟨te,pe,rfl⟩)).mono fun _ _ ⟨n,h1,_,_,h2⟩=>⟨⟨n,h1⟩,h2⟩
theorem toErr_any (fn s:ByteArray)(w:World)(hs:s.size≤1000)(N:Nms w) :
  Calls prog 166 #[.string fn,.string s,.int .i64 0,.int .i64 64,.iface 201 (.int .i64 1)] w fun e w'=>(∃v,e=.returned v)∧Below w.heap.size w w':=by
 have H:=hd (rangeErr_any fn s w hs N);have q1:∀W,(binOp .eql 68 (.iface 201 (.int .i64 1)) (.iface 201 (.int .i64 2))).run prog W=.ok (.bool false) W:=fun W=>by kernel_rfl
 have q2:∀W,(binOp .eql 68 (.iface 201 (.int .i64 1)) (.iface 201 (.int .i64 1))).run prog W=.ok (.bool true) W:=fun W=>by kernel_rfl
 clear N hs;go_enter func166,ntmps166;go_wp2_with (go_at_call 177;refine H.o.mono ?_;rintro e w' ⟨⟨n,rfl⟩,hB⟩;have HB:=hd hB;clear hB)
 go_ret;exact⟨⟨_,rfl⟩,HB.o⟩
theorem parse_of (s:ByteArray)(w:World)(N:Nms w)(hs:s.size≤600)(V:Nat→Prop)
  (HA:Hd (Calls prog 183 #[.string s] w fun e w'=>Below w.heap.size w w'∧∃b,V b∧e=.returned (.tuple #[.float .f64 b,.int .i64 (s.size:Int),erOf b]))) :
  Calls prog 150 #[.string s,.int .i64 64] w fun e w'=>Below w.heap.size w w'∧∃b er,V b∧e=.returned (.tuple #[.float .f64 b,er]):=by
 have H1:Hd (Calls prog 175 #[.string s,.int .i64 64] w fun e w'=>Below w.heap.size w w'∧∃b,V b∧e=.returned (.tuple #[.float .f64 b,.int .i64 (s.size:Int),erOf b])):=hd (by
  go_enter func175,ntmps175;go_wp2_with (go_at_call 183;refine HA.o.mono ?_;rintro e w' ⟨hB,b,hV,rfl⟩;have HB:=hd hB;have HV:=hd hV;clear hB hV)
  refine bodyPost_ret (v:=.tuple #[.float .f64 b,.int .i64 (s.size:Int),erOf b]) (by simp[results,Tryz.results175,go_sem]) rfl ⟨HB.o,b,HV.o,rfl⟩)
 have H2:Hd (Calls prog 165 #[.string s,.int .i64 64] w fun e w'=>Below w.heap.size w w'∧∃b,V b∧e=.returned (.tuple #[.float .f64 b,erOf b])):=hd (by
  go_enter func165,ntmps165;go_wp2_with (go_at_call 175;refine H1.o.mono ?_;rintro e w' ⟨hB,b,hV,rfl⟩;have HB:=hd hB;have HV:=hd hV;clear hB hV)
  go_ret2;exact⟨HB.o,b,HV.o,rfl⟩)
 have HN:=hd N;clear N HA H1;go_enter func150,ntmps150;go_wp2_with (go_at_call 165;refine H2.o.mono ?_;rintro e w1 ⟨hB,b,hV,rfl⟩;have HB:=hd hB;have HV:=hd hV;clear hB hV;revert HV)
 intro HV;by_cases c:b=FS.INF
 ·have he:erOf b=.iface 201 (.int .i64 1):=by rw[c];exact er_inf
  have HT:=hd (toErr_any ⟨#[80,97,114,115,101,70,108,111,97,116]⟩ s w1 (by omega) (HN.o.below HB.o));rw[he];clear he c;go_wp2_with (go_at_call 166;refine HT.o.mono ?_;rintro e w' ⟨⟨v,rfl⟩,hB2⟩;have HB2:=hd (bel HB.o hB2);clear hB2)
  go_ret2;exact⟨HB2.o,b,_,HV.o,rfl⟩
 ·have he:erOf b=.nilIface:=by unfold erOf;rw[if_neg c]
  rw[he];clear he c;go_wp2;go_ret2;exact⟨HB.o,b,_,HV.o,rfl⟩
theorem andNot63 (b:Nat)(h:b<9223372036854775808):bits .andNot .u64 (b:Int) 9223372036854775808=(b:Int):=by
 have e:=u64_andNot_nat b 9223372036854775808 (by omega) (by decide);have e1:b &&& (18446744073709551615-9223372036854775808)=b:=by
  have:=Nat.and_two_pow_sub_one_eq_mod b 63;rw[show (2:Nat)^63-1=18446744073709551615-9223372036854775808 from rfl]at this;rw[this,Nat.mod_eq_of_lt (by omega)]
 rw[e1]at e;exact e
theorem isInf_pos (b:Nat)(w:World)(h:b≤FS.INF):Calls prog 151 #[.float .f64 b,.int .i64 0] w fun e w'=>e=.returned (.bool (b==FS.INF))∧w=w':=by
 have hI:FS.INF=9218868437227405312:=rfl;have H:=hd (abs_any b w (andNot63 b (by omega)));have h2:(FloatKind.f64.format.order b 9218868437227405311==some Ordering.gt)=(b==FS.INF):=by
  obtain⟨a,c⟩:=FS.kr_pos h;have k:FO.kr 9218868437227405311=9218868437227405311:=(by decide);have n:FO.isN 9218868437227405311=false:=(by decide);rw[FO.gt_eq (by omega) (by decide),a,c,k,n,Bool.eq_iff_iff];simp;omega
 generalize hb:(b==FS.INF)=z at *;have h3:=hd h2;clear h hI hb;go_enter func151,ntmps151;go_wp2_with (go_at_call 167;refine H.o.mono ?_;rintro e w' ⟨rfl,rfl⟩)
 go_ret;exact⟨ret_bool (by first|rfl|exact h3.o),rfl⟩
def DD (l:List UInt8):Prop:=∀c∈l,c.toNat=46∨(48≤c.toNat∧c.toNat≤57)
theorem mf_take (l:List UInt8)(k:Nat)(h:k<l.length)(Q:PF.LS):PF.mf (l.take (k+1)) Q=PF.mst (PF.mf (l.take k) Q) (l[k]'h).toNat:=by
 rw[List.take_succ_eq_append_getElem h,PF.mf_app];rfl
theorem quo_nil:((List.range 16).all fun j=>floatBits .quo .f64 (floatOfInt .f64 0) (FS.ten j)==some 0)=true:=by decide +kernel
theorem small_quo (D b:Nat)(hD:D<1000000000000000)(hb:b<16):∃f,floatBits .quo .f64 (floatOfInt .f64 (D:Int)) (FS.ten b)=some f∧PVal D (-(b:Int)) f:=by
 rcases Nat.eq_zero_or_pos D with c|c
 ·subst c
  have h:=List.all_eq_true.1 quo_nil b (List.mem_range.2 hb);rw[beq_iff_eq]at h;exact⟨0,h,.inl ⟨rfl,rfl⟩⟩
 ·obtain⟨f,h1,h2⟩:=(FS.is_fl c (by omega)).div (FS.is_ten (j:=b) (by omega)) (by omega) (by have:=FS.X_pos b;omega)
  refine⟨f,h1,.inr ⟨c,?_⟩⟩;have e1:FS.vN D (-(b:Int))=D:=(by unfold FS.vN;rw[show (-(b:Int)).toNat=0 by omega];exact Nat.mul_one D);have e2:FS.vD (-(b:Int))=FS.X b:=(by unfold FS.vD;rw[Int.neg_neg,Int.toNat_natCast]);rw[e1,e2];exact h2
theorem small_any (s:ByteArray)(w:World)(hs:s.size≤1000) :
  Calls prog 149 #[.string s] w fun e w'=>Below w.heap.size w w'∧∃f ok,e=.returned (.tuple #[.float .f64 f,.bool ok])∧(ok=true→PVal (PF.mf s.data.toList PF.ls0).D (-((PF.mf s.data.toList PF.ls0).b:Int)) f∧f<FS.INF∧DD s.data.toList):=by
 have HSZ:=hd (Lib.size_eq s);go_enter func149,ntmps149;by_cases h15:15<s.size
 ·go_wp2
  refine bodyPost_ret (v:=.tuple #[.float .f64 0,.bool false]) (by simp[results,Tryz.results149,go_sem]) rfl ⟨?_,0,false,rfl,fun h=>by cases h⟩
  repeat (refine Below.setCell ?_ (by simp) _)
  exact(Below.refl _ _).alloc (Nat.le_refl _) _
 ·go_wp2_with fail
  go_loopw [5,6,7,16] (fun xn xb xp xk wr=>∃(k D b:Nat) (p:Bool),k≤s.size∧xk=.int .i64 (k:Int)∧xn=.int .i64 (D:Int)∧xb=.int .i64 (b:Int)∧xp=.bool p∧b≤k∧Hd (D<10^k)∧Hd ((⟨D,b,p⟩:PF.LS)=PF.mf (s.data.toList.take k) PF.ls0)∧Hd (DD (s.data.toList.take k))∧Hd (∀j,j<16→wr.cell? ⟨w.heap.size,j,none⟩=some (.float .f64 (FS.ten j)))∧Hd (Below w.heap.size w wr)) (fun xn xb xp xk wr=>s.size-(intOf xk).toNat)
  case atStart=>
   refine⟨0,0,0,false,Nat.zero_le _,rfl,rfl,rfl,rfl,Nat.le_refl _,hd (by decide),hd rfl,hd (fun c hc=>by simp at hc),hd (fun j hj=>?_),hd ?_⟩
   ·have hj16:j=0∨j=1∨j=2∨j=3∨j=4∨j=5∨j=6∨j=7∨j=8∨j=9∨j=10∨j=11∨j=12∨j=13∨j=14∨j=15:=by omega
    rcases hj16 with rfl|rfl|rfl|rfl|rfl|rfl|rfl|rfl|rfl|rfl|rfl|rfl|rfl|rfl|rfl|rfl<;>simp[FS.ten,FS.tens]
   ·repeat (refine Below.setCell ?_ (by simp) _)
    exact(Below.refl _ _).alloc (Nat.le_refl _) _
  case round=>
   obtain⟨k,D,b,p,hk,rfl,rfl,rfl,rfl,hbk,HD,HQ,HDD,HC,HB⟩:=hrel;have hn15:D<1000000000000000:=Nat.lt_of_lt_of_le HD.o (Nat.pow_le_pow_right (by decide) (show k≤15 by omega));by_cases hlt:k<s.size
   ·have hc:(s[k]'hlt).toNat<256:=(s[k]'hlt).toNat_lt
    have hkl:k<s.data.toList.length:=(by have:=HSZ.o;omega);have HT:=hd (mf_take s.data.toList k hkl PF.ls0);have HE:Hd (s.data.toList[k]'hkl=s[k]'hlt):=hd rfl;rw[HE.o,←HQ.o]at HT;have HDT:(s[k]'hlt).toNat=46∨(48≤(s[k]'hlt).toNat∧(s[k]'hlt).toNat≤57)→Hd (DD (s.data.toList.take (k+1))):=fun h=>hd (by
     rw[List.take_succ_eq_append_getElem hkl];intro c hc;rcases List.mem_append.1 hc with hc|hc
     ·exact HDD.o c hc
     ·rw[List.mem_singleton]at hc;subst hc;rw[HE.o];exact h)
    by_cases c46:(s[k]'hlt).toNat=46
    ·have t46:(((s[k]'hlt).toNat:Int)==46)=true:=by rw[c46];rfl
     have HD2:Hd (D<10^(k+1)):=hd (Nat.lt_of_lt_of_le HD.o (Nat.pow_le_pow_right (by decide) (by omega)));have HQ2:Hd ((⟨D,b,true⟩:PF.LS)=PF.mf (s.data.toList.take (k+1)) PF.ls0):=hd (by rw[HT.o];unfold PF.mst;rw[if_pos c46]);have HDD2:=HDT (.inl c46);clear c46 HD HT HQ HDT HDD HE;go_wp2;go_roundw
     case rel=>exact⟨k+1,D,b,true,by omega,by go_num,rfl,rfl,rfl,by omega,HD2,HQ2,HDD2,HC,HB⟩
     case measure=>simp[intOf];omega
    ·have t46:(((s[k]'hlt).toNat:Int)==46)=false:=by rw[bf];omega
     cases hdg:PN.dg (s[k]'hlt).toNat with
     |true=>
      have hd1:48≤(s[k]'hlt).toNat∧(s[k]'hlt).toNat≤57:=(by unfold PN.dg at hdg;simpa using hdg);obtain⟨d1,d2⟩:=hd1;have V:=hd hdg;have HD2:Hd (D*10+((s[k]'hlt).toNat-48)<10^(k+1)):=hd (by have:=HD.o;rw[Nat.pow_succ];omega);have HQ2:Hd ((⟨D*10+((s[k]'hlt).toNat-48),if p then b+1 else b,p⟩:PF.LS)=PF.mf (s.data.toList.take (k+1)) PF.ls0):=hd (by rw[HT.o];unfold PF.mst;rw[if_neg c46]);have HDD2:=HDT (.inr ⟨d1,d2⟩);clear c46 HD hdg HT HQ HDT HDD HE;cases p
      ·go_wp2_with (go_at_call 143;refine(ndigit_any _ _ hc).mono ?_;rintro e w' ⟨rfl,rfl⟩;rw[V.o])
       go_roundw
       case rel=>exact⟨k+1,D*10+((s[k]'hlt).toNat-48),b,false,by omega,by go_num,by go_num,rfl,rfl,by omega,HD2,HQ2,HDD2,HC,HB⟩
       case measure=>simp[intOf];omega
      ·go_wp2_with (go_at_call 143;refine(ndigit_any _ _ hc).mono ?_;rintro e w' ⟨rfl,rfl⟩;rw[V.o])
       go_roundw
       case rel=>exact⟨k+1,D*10+((s[k]'hlt).toNat-48),b+1,true,by omega,by go_num,by go_num,by go_num,rfl,by omega,HD2,HQ2,HDD2,HC,HB⟩
       case measure=>simp[intOf];omega
     |false=>
      have V:=hd hdg;clear c46 HD hdg HT HQ HDT HDD HE;go_wp2_with (go_at_call 143;refine(ndigit_any _ _ hc).mono ?_;rintro e w' ⟨rfl,rfl⟩;rw[V.o])
      refine bodyPost_ret (v:=.tuple #[.float .f64 0,.bool false]) (by simp[results,Tryz.results149,go_sem]) rfl ⟨HB.o,0,false,rfl,fun h=>by cases h⟩
   ·obtain rfl:k=s.size:=by omega
    have hfull:s.data.toList.take s.size=s.data.toList:=List.take_of_length_le (by rw[HSZ.o];exact Nat.le_refl _);rw[hfull]at HQ HDD;obtain⟨f,hf,hV⟩:=small_quo D b hn15 (by omega);have HF:Hd (f<FS.INF):=hd (by
     rcases hV with ⟨h1,h2⟩|⟨h1,h2⟩
     ·rw[h2];decide
     ·exact FS.fin37 h2 (by omega) (by omega))
    have HV:=hd hV;have hq:∀W:World,(binOp .quo 121 (.float .f64 (floatOfInt .f64 (D:Int))) (.float .f64 (FS.ten b))).run prog W=.ok (.float .f64 f) W:=fun W=>run_float_arith W .quo _ .f64 _ _ _ hf
    have hcl:=HC.o b (by omega);generalize FS.ten b=t at *;have hb16:b<16:=(by omega);clear hV hf HC HD hn15 hfull;go_wp2;refine bodyPost_ret (v:=.tuple #[.float .f64 f,.bool true]) (by simp[results,Tryz.results149,go_sem]) rfl ⟨HB.o,f,true,rfl,fun _=>⟨?_,HF.o,HDD.o⟩⟩;rw[←HQ.o];exact HV.o
def Wd (s v:ByteArray):Prop:=s.size=v.size∧∀i (h:i<s.size) (h':i<v.size),PF.low (s[i]'h).toNat=(v[i]'h').toNat
theorem word_diff (s v:ByteArray)(w:World)(h:s.size≠v.size):Calls prog 146 #[.string s,.string v] w fun e w'=>e=.returned (.bool false)∧w=w':=by
 have t:((s.size:Int)!=(v.size:Int))=true:=(by rw[bne_iff_ne];omega);clear h;go_enter func146,ntmps146;go_wp2;go_ret;exact⟨rfl,rfl⟩
def WdA (s v:ByteArray)(e:Ending):Prop:=∃b:Bool,(b=true↔Wd s v)∧e=.returned (.bool b)
theorem WdA.no {s v:ByteArray}(h:¬ Wd s v):WdA s v (.returned (.bool false)):=⟨false,⟨fun h=>(by cases h),fun k=>absurd k h⟩,rfl⟩
theorem WdA.yes {s v:ByteArray}(h:Wd s v):WdA s v (.returned (.bool true)):=⟨true,⟨fun _=>h,fun _=>rfl⟩,rfl⟩
theorem word_any (s v:ByteArray)(w:World)(hv:v.size≤1000):Calls prog 146 #[.string s,.string v] w fun e w'=>Below w.heap.size w w'∧WdA s v e:=by
 by_cases c:s.size=v.size
 ·have t:((s.size:Int)!=(v.size:Int))=false:=by rw[bne_eq_false_iff_eq];omega
  have hs:s.size≤1000:=(by omega);go_enter func146,ntmps146;go_wp2_with fail
  go_loopw [13] (fun xi wr=>∃k:Nat,k≤s.size∧xi=.int .i64 (k:Int)∧Hd (∀i (h:i<s.size) (h':i<v.size),i<k→PF.low (s[i]'h).toNat=(v[i]'h').toNat)∧Hd (Below w.heap.size w wr)) (fun xi wr=>s.size-(intOf xi).toNat)
  case atStart=>exact⟨0,Nat.zero_le _,rfl,hd (fun i _ _ h=>absurd h (by omega)),hd (Below.refl _ _)⟩
  case round=>
   obtain⟨k,hk,rfl,HK,HB⟩:=hrel;by_cases hlt:k<s.size
   ·have hlv:k<v.size:=by omega
    have q:bits .or .u8 ((s[k]'hlt).toNat:Int) 32=((PF.low (s[k]'hlt).toNat:Nat):Int):=u8_or_nat (s[k]'hlt).toNat 32 (s[k]'hlt).toNat_lt (by decide);have hle:PF.low (s[k]'hlt).toNat<256:=(PF.low_at (s[k]'hlt).toNat_lt).1;by_cases e:PF.low (s[k]'hlt).toNat=(v[k]'hlv).toNat
    ·have t2:(((PF.low (s[k]'hlt).toNat:Nat):Int)!=((v[k]'hlv).toNat:Int))=false:=by rw[bne_eq_false_iff_eq];omega
     have HK2:Hd (∀i (h:i<s.size) (h':i<v.size),i<k+1→PF.low (s[i]'h).toNat=(v[i]'h').toNat):=hd (fun i h h' hi=>by
      rcases Nat.lt_or_ge i k with h1|h1
      ·exact HK.o i h h' h1
      ·have:i=k:=by omega
       subst this;exact e)
     generalize PF.low (s[k]'hlt).toNat=x at *;clear e HK;go_wp2
     go_quiet (fail)
     go_wp2;go_roundw
     case rel=>exact⟨k+1,by omega,by go_num,HK2,hd (bel_drew HB.o _)⟩
     case measure=>simp[intOf];omega
    ·have t2:(((PF.low (s[k]'hlt).toNat:Nat):Int)!=((v[k]'hlv).toNat:Int))=true:=by rw[bne_iff_ne];omega
     have HW:Hd (¬ Wd s v):=hd (fun h=>e (h.2 k hlt hlv));generalize PF.low (s[k]'hlt).toNat=x at *;clear e HK;go_wp2
     go_quiet (fail)
     go_wp2;go_ret;exact⟨bel_drew HB.o _,WdA.no HW.o⟩
   ·have HW:Hd (Wd s v):=hd ⟨c,fun i h h'=>HK.o i h h' (by omega)⟩
    have hks:¬ (k:Int)<(s.size:Int):=(by omega);clear HK;go_wp2;go_ret;exact⟨HB.o,WdA.yes HW.o⟩
 ·refine(word_diff s v w c).mono ?_
  rintro e w' ⟨rfl,rfl⟩;exact⟨Below.refl _ _,WdA.no (fun h=>c h.1)⟩
theorem word_first (s v:ByteArray)(w:World)(h0:0<s.size)(hv:v.size=3)(h:PF.low (s[0]'h0).toNat≠(v[0]'(by omega)).toNat):Calls prog 146 #[.string s,.string v] w fun e w'=>e=.returned (.bool false)∧Below w.heap.size w w':=
 (word_any s v w (by omega)).mono (by
  rintro e w' ⟨hB,b,hb,rfl⟩;cases b
  ·exact⟨rfl,hB⟩
  ·exact absurd ((hb.1 rfl).2 0 h0 (by omega)) h)
def RdAns (b:Nat):Value:=if b=FS.INF then .tuple #[.float .f64 0,.int .i64 21] else .tuple #[.float .f64 b,.int .i64 0]
theorem readE (s:ByteArray)(w:World)(N:Nms w)(hs:s.size≤512)(h0:0<s.size)(hp:PN.pfx s.data.toList=s.size)(h1:∀h:1<s.size,PF.low (s[1]'h).toNat≠120)
  (f1:PF.low (s[0]'h0).toNat≠105)(f2:PF.low (s[0]'h0).toNat≠110)(D:Nat)(q:Int)(HSM:DD s.data.toList→(PF.mf s.data.toList PF.ls0).D=D∧-((PF.mf s.data.toList PF.ls0).b:Int)=q)
  (HA:∀W,Below w.heap.size w W→Hd (Calls prog 183 #[.string s] W fun e w'=>Below W.heap.size W w'∧∃b,PVal D q b∧e=.returned (.tuple #[.float .f64 b,.int .i64 (s.size:Int),erOf b]))) :
  Calls prog 120 #[.string s] w fun e w'=>Below w.heap.size w w'∧∃b,PVal D q b∧e=.returned (RdAns b):=by
 have HW1:=hd (fun W=>word_first s ⟨#[105,110,102]⟩ W h0 (by decide) f1);have HW2:=hd (fun W=>word_first s ⟨#[110,97,110]⟩ W h0 (by decide) f2);have HP:=hd (fun W=>prefix_any s W (by omega));rw[hp]at HP;have HS:=hd (fun W=>small_any s W (by omega));have HF:=hd (fun W (hb:Below w.heap.size w W)=>parse_of s W (N.below hb) (by omega) (PVal D q) (HA W hb));have HM:=hd HSM;have hne:¬ s=ByteArray.empty:=fun h=>by subst h;exact absurd h0 (by decide)
 have hne2:s.toList.isEmpty=false:=by
  rw[ByteArray.toList_eq,List.isEmpty_eq_false_iff];intro h;have h2:s.size=0:=(by rw[Lib.size_eq,h];rfl);omega
 have hx:1<s.size→Hd (∃h:1<s.size,((PF.low (s[1]'h).toNat:Int)==120)=false∧bits .or .u8 ((s[1]'h).toNat:Int) 32=((PF.low (s[1]'h).toNat:Nat):Int)):=fun h=>hd ⟨h,by rw[bf];have:=h1 h;omega,u8_or_nat (s[1]'h).toNat 32 (s[1]'h).toNat_lt (by decide)⟩
 clear N HA HSM h1 f1 f2 hp;have fin:∀ {b:Nat},PVal D q b→b≤FS.INF:=fun {b} h=>by
  rcases h with ⟨_,h⟩|⟨_,h⟩
  ·rw[h];exact Nat.zero_le _
  ·exact h.le
 have HFIN:=hd @fin;clear fin;by_cases h1:1<s.size
 ·obtain⟨hlt,x1,x2⟩:=(hx h1).o
  clear hx;go_enter func120,ntmps120;go_wp2_with (first|(go_at_call 146;(with_reducible refine(HW1.o _).mono ?_);rintro e wa ⟨rfl,hB⟩;have HBa:=hd hB;clear hB)|(go_at_call 146;(with_reducible refine(HW2.o _).mono ?_);rintro e wb ⟨rfl,hB⟩;have HBb:=hd (bel HBa.o hB);clear hB)|(go_at_call 117;(with_reducible refine(HP.o _).mono ?_);rintro e w' ⟨rfl,rfl⟩)|(go_at_call 149;(with_reducible refine(HS.o _).mono ?_);rintro e w1 ⟨hB,f,ok,rfl,hh⟩;have HB:=hd (bel HBb.o hB);have HH:=hd hh;clear hB hh;revert HH))
  intro HH;cases ok
  case true=>
   obtain⟨hV,hfin,hDD⟩:=HH.o rfl;have HV:Hd (PVal D q f):=hd (by obtain⟨e1,e2⟩:=HM.o hDD;rw[←e1,←e2];exact hV);have HR:Hd (RdAns f=.tuple #[.float .f64 f,.int .i64 0]):=hd (by unfold RdAns;rw[if_neg (by omega)]);clear hV hfin hDD;go_wp2;go_ret2;exact⟨HB.o,f,HV.o,congrArg Ending.returned HR.o.symm⟩
  case false=>
   go_wp2_with (go_at_call 150;(with_reducible refine(HF.o _ HB.o).mono ?_);rintro e w2 ⟨hB2,b,er,hV,rfl⟩;have HB2:=hd (bel HB.o hB2);have HV:=hd hV;clear hB2 hV;revert HV)
   intro HV;have HI:=hd (fun W=>isInf_pos b W (HFIN.o HV.o));by_cases c:b=FS.INF
   ·have e1:(b==FS.INF)=true:=beq_iff_eq.2 c
    have HR:Hd (RdAns b=.tuple #[.float .f64 0,.int .i64 21]):=hd (by unfold RdAns;rw[if_pos c]);rw[e1]at HI;clear c e1;go_wp2_with (go_at_call 151;(with_reducible refine(HI.o _).mono ?_);rintro e w' ⟨rfl,rfl⟩)
    go_ret2;exact⟨HB2.o,b,HV.o,congrArg Ending.returned HR.o.symm⟩
   ·have e1:(b==FS.INF)=false:=bf.2 c
    have HR:Hd (RdAns b=.tuple #[.float .f64 b,.int .i64 0]):=hd (by unfold RdAns;rw[if_neg c]);rw[e1]at HI;clear c e1;go_wp2_with (go_at_call 151;(with_reducible refine(HI.o _).mono ?_);rintro e w' ⟨rfl,rfl⟩)
    go_ret2;exact⟨HB2.o,b,HV.o,congrArg Ending.returned HR.o.symm⟩
 ·clear hx
  go_enter func120,ntmps120;go_wp2_with (first|(go_at_call 146;(with_reducible refine(HW1.o _).mono ?_);rintro e wa ⟨rfl,hB⟩;have HBa:=hd hB;clear hB)|(go_at_call 146;(with_reducible refine(HW2.o _).mono ?_);rintro e wb ⟨rfl,hB⟩;have HBb:=hd (bel HBa.o hB);clear hB)|(go_at_call 117;(with_reducible refine(HP.o _).mono ?_);rintro e w' ⟨rfl,rfl⟩)|(go_at_call 149;(with_reducible refine(HS.o _).mono ?_);rintro e w1 ⟨hB,f,ok,rfl,hh⟩;have HB:=hd (bel HBb.o hB);have HH:=hd hh;clear hB hh;revert HH))
  intro HH;cases ok
  case true=>
   obtain⟨hV,hfin,hDD⟩:=HH.o rfl;have HV:Hd (PVal D q f):=hd (by obtain⟨e1,e2⟩:=HM.o hDD;rw[←e1,←e2];exact hV);have HR:Hd (RdAns f=.tuple #[.float .f64 f,.int .i64 0]):=hd (by unfold RdAns;rw[if_neg (by omega)]);clear hV hfin hDD;go_wp2;go_ret2;exact⟨HB.o,f,HV.o,congrArg Ending.returned HR.o.symm⟩
  case false=>
   go_wp2_with (go_at_call 150;(with_reducible refine(HF.o _ HB.o).mono ?_);rintro e w2 ⟨hB2,b,er,hV,rfl⟩;have HB2:=hd (bel HB.o hB2);have HV:=hd hV;clear hB2 hV;revert HV)
   intro HV;have HI:=hd (fun W=>isInf_pos b W (HFIN.o HV.o));by_cases c:b=FS.INF
   ·have e1:(b==FS.INF)=true:=beq_iff_eq.2 c
    have HR:Hd (RdAns b=.tuple #[.float .f64 0,.int .i64 21]):=hd (by unfold RdAns;rw[if_pos c]);rw[e1]at HI;clear c e1;go_wp2_with (go_at_call 151;(with_reducible refine(HI.o _).mono ?_);rintro e w' ⟨rfl,rfl⟩)
    go_ret2;exact⟨HB2.o,b,HV.o,congrArg Ending.returned HR.o.symm⟩
   ·have e1:(b==FS.INF)=false:=bf.2 c
    have HR:Hd (RdAns b=.tuple #[.float .f64 b,.int .i64 0]):=hd (by unfold RdAns;rw[if_neg c]);rw[e1]at HI;clear c e1;go_wp2_with (go_at_call 151;(with_reducible refine(HI.o _).mono ?_);rintro e w' ⟨rfl,rfl⟩)
    go_ret2;exact⟨HB2.o,b,HV.o,congrArg Ending.returned HR.o.symm⟩
theorem split_unique:∀(a a' r r':List UInt8),a++r=a'++r'→DD a→DD a'→(∀c t,r=c::t→c.toNat=101∨c.toNat=69)→(∀c t,r'=c::t→c.toNat=101∨c.toNat=69)→a=a'∧r=r'
 |[],[],r,r',h,_,_,_,_=>⟨rfl,by simpa using h⟩
 |[],y::a',r,r',h,_,h2,h3,_=>by
  exfalso;have:=h3 y (a'++r') (by simpa using h);have:=h2 y (List.mem_cons_self ..);omega
 |x::a,[],r,r',h,h1,_,_,h4=>by
  exfalso;have:=h4 x (a++r) (by simpa using h.symm);have:=h1 x (List.mem_cons_self ..);omega
 |x::a,y::a',r,r',h,h1,h2,h3,h4=>by
  rw[List.cons_append,List.cons_append]at h;injection h with e1 e2
  obtain⟨e3,e4⟩:=split_unique a a' r r' e2 (fun c hc=>h1 c (List.mem_cons_of_mem _ hc)) (fun c hc=>h2 c (List.mem_cons_of_mem _ hc)) h3 h4;exact⟨by rw[e1,e3],e4⟩
theorem low_ok {c:UInt8}(h:c.toNat=46∨(48≤c.toNat∧c.toNat≤57)∨c.toNat=101∨c.toNat=69∨c.toNat=43∨c.toNat=45):PF.low c.toNat≠120:=fun e=>by
 have:=(PF.low_at c.toNat_lt).2.1.1 e;omega
theorem low_first:((List.range 58).all fun c=>if 46≤c then PF.low c !=105 && PF.low c !=110 else true)=true:=by decide +kernel
end Go.Proofs.YtieknenhfeejiaaGreatDoor
