/- The reference's reading of numbers in plain words: exponents, the search for .. -/
import Derived.Test.YtieknenhfeejiaaGreatDoorPRdA
import Derived.Test.YtieknenhfeejiaaGreatDoorRfStep
import Derived.Test.YtieknenhfeejiaaGreatDoorFRefShow
set_option maxRecDepth 100000
set_option maxHeartbeats 4000000
set_option linter.unusedVariables false
set_option linter.unusedSimpArgs false
namespace Go.Proofs.YtieknenhfeejiaaGreatDoor
open _root_.Go.Proofs.Tryz
namespace PF
def rloop:List UInt8→Nat→Bool→Nat×Bool
 |[],p,mi=>(p,mi)
 |c::r,p,mi=>if c.toNat=45 then rloop r p true else if c.toNat≠43∧p<100000 then rloop r (p*10+(c.toNat-48)) mi else rloop r p mi
def rexp:List UInt8→Int
 |[]=>0
 |_::t=>if (rloop t 0 false).2 then -((rloop t 0 false).1:Int) else(rloop t 0 false).1
def dl:List UInt8→Nat→Nat
 |[],p=>p
 |c::r,p=>dl r (if p<100000 then p*10+(c.toNat-48) else p)
theorem rloop_dl:∀(l:List UInt8) (p:Nat) (mi:Bool),(∀x∈l,48≤x.toNat∧x.toNat≤57)→rloop l p mi=(dl l p,mi)
 |[],p,mi,h=>rfl
 |c::r,p,mi,h=>by
  have hc:=h c (List.mem_cons_self ..);have hr:=fun x hx=>h x (List.mem_cons_of_mem _ hx)
  unfold rloop dl;rw[if_neg (by omega)];by_cases hp:p<100000
  ·rw[if_pos ⟨by omega,hp⟩,if_pos hp,rloop_dl r _ _ hr]
  ·rw[if_neg (fun hh=>hp hh.2),if_neg hp,rloop_dl r _ _ hr]
theorem dl_bd:∀(l:List UInt8) (p:Nat),p≤1000000→(∀x∈l,48≤x.toNat∧x.toNat≤57)→dl l p≤1000000
 |[],p,hp,h=>hp
 |c::r,p,hp,h=>by
  have hc:=h c (List.mem_cons_self ..);unfold dl;refine dl_bd r _ ?_ (fun x hx=>h x (List.mem_cons_of_mem _ hx));split<;>omega
theorem dl_el:∀(l:List UInt8) (p e:Nat),(p=e∨(10000≤p∧10000≤e))→(dl l p=eloop l e∨(10000≤dl l p∧10000≤eloop l e))
 |[],p,e,h=>h
 |c::r,p,e,h=>by
  unfold dl eloop;refine dl_el r _ _ ?_;rcases h with rfl|⟨h1,h2⟩
  ·by_cases h:p<10000
   ·rw[if_pos (by omega),if_pos h];exact .inl rfl
   ·rw[if_neg h]
    right
    constructor
    ·split<;>omega
    ·omega
  ·rw[if_neg (by omega:¬ e<10000)]
   right
   constructor
   ·split<;>omega
   ·omega
theorem rexp_cons (c d:UInt8)(u:List UInt8):rexp (c::d::u)=if (rloop (d::u) 0 false).2 then -((rloop (d::u) 0 false).1:Int) else(rloop (d::u) 0 false).1:=rfl
theorem expOf_cons (c d:UInt8)(u:List UInt8):expOf (c::d::u)=(eloop ((d::u).drop (PN.sgl (d::u))) 0:Int)*(if d.toNat=45 then -1 else 1):=rfl
theorem rexp_both {r:List UInt8}(h:expOk r):(rexp r=expOf r∨(10000≤rexp r∧10000≤expOf r)∨(rexp r≤-10000∧expOf r≤-10000))∧-1000000≤rexp r∧rexp r≤1000000:=by
 cases r with
 |nil=>exact⟨.inl rfl,by decide,by decide⟩
 |cons c t=>
  obtain⟨hc,hl,hd⟩:=h;cases t with
  |nil=>simp at hl
  |cons d u=>
   rw[PN.sgl_cons]at hl hd;rw[rexp_cons,expOf_cons,PN.sgl_cons];by_cases hs:d.toNat=43∨d.toNat=45
   ·rw[if_pos hs]at hd ⊢
    have hd':∀x∈u,48≤x.toNat∧x.toNat≤57:=hd
    have key:=dl_el u 0 0 (.inl rfl);have bd:=dl_bd u 0 (by decide) hd';rw[List.drop_succ_cons,List.drop_zero];by_cases h45:d.toNat=45
    ·have e:rloop (d::u) 0 false=(dl u 0,true):=by
      rw[rloop,if_pos h45,rloop_dl u _ _ hd']
     rw[e,if_pos h45];simp only[if_true];omega
    ·have e:rloop (d::u) 0 false=(dl u 0,false):=by
      rw[rloop,if_neg h45,if_neg (by omega),rloop_dl u _ _ hd']
     rw[e,if_neg h45];simp only[Bool.false_eq_true,if_false];omega
   ·rw[if_neg hs]at hd ⊢
    have hd':∀x∈d::u,48≤x.toNat∧x.toNat≤57:=hd
    have key:=dl_el (d::u) 0 0 (.inl rfl);have bd:=dl_bd (d::u) 0 (by decide) hd';have e:=rloop_dl (d::u) 0 false hd';rw[e,if_neg (show ¬ d.toNat=45 by omega),List.drop_zero];simp only[Bool.false_eq_true,if_false];omega
end PF
theorem pval_big {D b:Nat}{q:Int}(h0:0<D)(hq:400<q)(h:PVal D q b):b=FS.INF:=
 PVal.ext h (.inr ⟨h0,FS.big_rnd h0 (by omega)⟩)
theorem X_plus (a b:Nat):FS.X (a+b)=FS.X a*FS.X b:=by unfold FS.X;exact Nat.pow_add ..
theorem nil_rnd {D:Nat}{q:Int}(h0:0<D)(hD:D<FS.X 600)(hq:q < -1000):PVal D q 0:=by
 refine .inr ⟨h0,FS.rnd_nil ?_⟩;unfold FS.vN FS.vD;have e:q.toNat=0:=(by omega);rw[e];have h1:=FS.facX.2;have h2:FS.X 0=1:=rfl;have h3:FS.X 600*FS.X 346≤FS.X (-q).toNat:=by
  rw[←X_plus 600 346];exact FS.X_mono (by omega)
 have h4:FS.Z 1075<FS.X 346:=Nat.lt_of_le_of_lt (Nat.le_mul_of_pos_left _ (by decide)) h1;rw[h2,Nat.mul_one];refine Nat.lt_of_lt_of_le (Nat.mul_lt_mul'' hD h4) h3
theorem pval_same {D b b':Nat}{q q':Int}(hD:D<FS.X 600)(hq:q=q'∨(400<q∧400<q')∨(q < -1000∧q' < -1000))(h:PVal D q b)(k:PVal D q' b'):b=b':=by
 rcases hq with rfl|⟨h1,h2⟩|⟨h1,h2⟩
 ·exact h.ext k
 ·rcases Nat.eq_zero_or_pos D with d0|d0
  ·subst d0
   rcases h with ⟨_,rfl⟩|⟨h,_⟩
   ·rcases k with ⟨_,rfl⟩|⟨k,_⟩
    ·rfl
    ·omega
   ·omega
  ·rw[pval_big d0 h1 h,pval_big d0 h2 k]
 ·rcases Nat.eq_zero_or_pos D with d0|d0
  ·subst d0
   rcases h with ⟨_,rfl⟩|⟨h,_⟩
   ·rcases k with ⟨_,rfl⟩|⟨k,_⟩
    ·rfl
    ·omega
   ·omega
  ·rw[h.ext (nil_rnd d0 hD h1),k.ext (nil_rnd d0 hD h2)]
namespace FS
def wl (b:Nat):Nat:=mOf b*Z (eOf b+1074).toNat
theorem hf_wl (b:Nat):2*wl b<hf b:=by
 unfold wl hf;rw[←Nat.mul_assoc];exact Nat.mul_lt_mul_of_pos_right (by omega) (Z_pos _)
theorem wl_zero:wl 0=0:=by
 unfold wl;have:mOf 0=0:=(by decide);rw[this,Nat.zero_mul]
theorem near_rnd {n d lo:Nat}(hd:0<d)(hI:lo<INF)(h1:wl lo*d≤n*Z 1074)(h2:lo+1=INF∨n*Z 1074<wl (lo+1)*d) :
  ((hf lo*d<n*Z 1075∨(hf lo*d=n*Z 1075∧lo%2=1))→Rnd n d (lo+1))∧(¬ (hf lo*d<n*Z 1075∨(hf lo*d=n*Z 1075∧lo%2=1))→Rnd n d lo):=by
 have ez:n*Z 1075=2*(n*Z 1074):=by rw[Z_succ 1074,Nat.mul_left_comm]
 constructor
 ·intro h
  refine⟨by omega,.inr ?_,?_⟩
  ·rw[Nat.add_sub_cancel]
   rcases h with h|⟨h,k⟩
   ·exact .inl h
   ·exact .inr ⟨h,by omega⟩
  ·rcases h2 with h2|h2
   ·exact .inl h2
   ·right;left
    have:=Nat.mul_lt_mul_of_pos_right (hf_wl (lo+1)) hd;rw[Nat.mul_assoc]at this;omega
 ·intro h
  refine⟨by omega,?_,.inr ?_⟩
  ·by_cases l0:lo=0
   ·exact .inl l0
   ·right;left
    have:=Nat.mul_lt_mul_of_pos_right (hf_pred hI l0) hd;have e:2*mOf lo*Z (eOf lo+1074).toNat * d=2*(wl lo*d):=(by unfold wl;rw[Nat.mul_assoc 2,Nat.mul_assoc 2]);omega
  ·rcases Nat.lt_trichotomy (n*Z 1075) (hf lo*d) with c|c|c
   ·exact .inl c
   ·refine .inr ⟨c,?_⟩
    have:¬ lo%2=1:=fun hh=>h (.inr ⟨c.symm,hh⟩)
    omega
   ·exact absurd (.inl c) h
end FS
theorem FB.cmp_mul (x y k:Nat)(hk:0<k):FB.cmp (x*k) (y*k)=FB.cmp x y:=by
 unfold FB.cmp;simp only[Nat.mul_lt_mul_right hk]
theorem FS.ag_scale (m n d:Nat)(e:Int)(S:Nat)(h : -(S:Int)≤e):FB.cmp (m*d*2^e.toNat) (n*2^(-e).toNat)=FB.cmp (m*FS.Z (e+S).toNat * d) (n*FS.Z S):=by
 obtain⟨K,hK⟩:∃K,K=S-(-e).toNat:=⟨_,rfl⟩
 have e1:(e+S).toNat=e.toNat+K:=(by omega);have e2:S=(-e).toNat+K:=(by omega);rw[e1]
 have e3:FS.Z S=2^(-e).toNat * FS.Z K:=by conv=>lhs;rw[e2]
                                          unfold FS.Z;exact Nat.pow_add ..
 have e4:FS.Z (e.toNat+K)=2^e.toNat * FS.Z K:=(by unfold FS.Z;exact Nat.pow_add ..);rw[e3,e4,←FB.cmp_mul (m*d*2^e.toNat) (n*2^(-e).toNat) (FS.Z K) (FS.Z_pos K)];congr 1
 ·ac_rfl
 ·ac_rfl
end Go.Proofs.YtieknenhfeejiaaGreatDoor
namespace Go.Proofs.YtieknenhfeejiaaGreatDoor
open _root_.Go.Proofs.Tryz
open Go.RowKit
theorem low_word_all:((List.range 256).all fun c=>(List.range 26).all fun j=>decide (PF.low c=97+j)==decide (c=97+j∨c=65+j))=true:=by decide +kernel
theorem low_word {c d:Nat}(h:c<256)(h1:97≤d)(h2:d≤122):PF.low c=d↔c=d∨c=d-32:=by
 have:=List.all_eq_true.1 (List.all_eq_true.1 low_word_all c (List.mem_range.2 h)) (d-97) (List.mem_range.2 (by omega));rw[beq_iff_eq,decide_eq_decide]at this;rw[show 97+(d-97)=d by omega,show 65+(d-97)=d-32 by omega]at this;exact this
theorem rfword_any (s v:ByteArray)(w:World)(hv:v.size≤1000)(hl:∀i (h:i<v.size),97≤(v[i]'h).toNat∧(v[i]'h).toNat≤122):Calls prog 127 #[.string s,.string v] w fun e w'=>Below w.heap.size w w'∧WdA s v e:=by
 by_cases c:s.size=v.size
 ·have t:((s.size:Int)!=(v.size:Int))=false:=by rw[bne_eq_false_iff_eq];omega
  have hs:s.size≤1000:=(by omega);have HLL:=hd hl;clear hl;go_enter func127,ntmps127;go_wp2_with fail
  go_loopw [5] (fun xi wr=>∃k:Nat,k≤s.size∧xi=.int .i64 (k:Int)∧Hd (∀i (h:i<s.size) (h':i<v.size),i<k→PF.low (s[i]'h).toNat=(v[i]'h').toNat)∧Hd (Below w.heap.size w wr)) (fun xi wr=>s.size-(intOf xi).toNat)
  case atStart=>exact⟨0,Nat.zero_le _,rfl,hd (fun i _ _ h=>absurd h (by omega)),hd (Below.refl _ _)⟩
  case round=>
   obtain⟨k,hk,rfl,HK,HB⟩:=hrel;by_cases hlt:k<s.size
   ·have hlv:k<v.size:=by omega
    obtain⟨v1,v2⟩:=HLL.o k hlv;have hsc:(s[k]'hlt).toNat<256:=(s[k]'hlt).toNat_lt;have HW:=hd (low_word hsc v1 v2);have hw:IntKind.u8.wrap (((v[k]'hlv).toNat:Int)-32)=((v[k]'hlv).toNat:Int)-32:=(by rw[IntKind.wrap_u8];omega);by_cases e1:(s[k]'hlt).toNat=(v[k]'hlv).toNat
    ·have t2:(((s[k]'hlt).toNat:Int)!=((v[k]'hlv).toNat:Int))=false:=by rw[bne_eq_false_iff_eq];omega
     have HK2:Hd (∀i (h:i<s.size) (h':i<v.size),i<k+1→PF.low (s[i]'h).toNat=(v[i]'h').toNat):=hd (fun i h h' hi=>by
      rcases Nat.lt_or_ge i k with h1|h1
      ·exact HK.o i h h' h1
      ·have:i=k:=by omega
       subst this;exact HW.o.2 (.inl e1))
     clear e1 HK HW;go_wp2
     go_quiet (fail)
     go_wp2;go_roundw
     case rel=>exact⟨k+1,by omega,by go_num,HK2,hd (bel_drew HB.o _)⟩
     case measure=>simp[intOf];omega
    ·have t2:(((s[k]'hlt).toNat:Int)!=((v[k]'hlv).toNat:Int))=true:=by rw[bne_iff_ne];omega
     by_cases e2:(s[k]'hlt).toNat=(v[k]'hlv).toNat-32
     ·have t3:(((s[k]'hlt).toNat:Int)!=((v[k]'hlv).toNat:Int)-32)=false:=by rw[bne_eq_false_iff_eq];omega
      have HK2:Hd (∀i (h:i<s.size) (h':i<v.size),i<k+1→PF.low (s[i]'h).toNat=(v[i]'h').toNat):=hd (fun i h h' hi=>by
       rcases Nat.lt_or_ge i k with h1|h1
       ·exact HK.o i h h' h1
       ·have:i=k:=by omega
        subst this;exact HW.o.2 (.inr e2))
      clear e1 e2 HK HW;go_wp2
      go_quiet (fail)
      go_wp2;go_roundw
      case rel=>exact⟨k+1,by omega,by go_num,HK2,hd (bel_drew HB.o _)⟩
      case measure=>simp[intOf];omega
     ·have t3:(((s[k]'hlt).toNat:Int)!=((v[k]'hlv).toNat:Int)-32)=true:=by rw[bne_iff_ne];omega
      have HN:Hd (¬ Wd s v):=hd (fun h=>by
       have:=HW.o.1 (h.2 k hlt hlv);rcases this with h|h
       ·exact e1 h
       ·exact e2 h)
      clear e1 e2 HK HW;go_wp2
      go_quiet (fail)
      go_wp2;go_ret;exact⟨bel_drew HB.o _,WdA.no HN.o⟩
   ·have HW:Hd (Wd s v):=hd ⟨c,fun i h h'=>HK.o i h h' (by omega)⟩
    have hks:¬ (k:Int)<(s.size:Int):=(by omega);clear HK;go_wp2;go_ret;exact⟨HB.o,WdA.yes HW.o⟩
 ·have t:((s.size:Int)!=(v.size:Int))=true:=by rw[bne_iff_ne];omega
  have HN:Hd (¬ Wd s v):=hd (fun h=>c h.1);clear hl c;go_enter func127,ntmps127;go_wp2;go_ret;exact⟨Below.refl _ _,WdA.no HN.o⟩
theorem NV.shape {w:World}{v:Value}{N:Nat}(h:NV w v N):∃A n c,v=.slice A n c∧(n=0↔N=0):=by
 obtain⟨l,⟨⟨A,c,rfl,_⟩,_⟩,hT,rfl⟩:=h;refine⟨A,_,c,rfl,?_⟩
 constructor
 ·intro h0
  have:l=[]:=List.eq_nil_of_length_eq_zero h0;subst this;rfl
 ·intro h0
  rcases Nat.eq_zero_or_pos l.length with h|h
  ·exact h
  ·have:=hT.le h
   have hp:0<4294967296^(l.length-1):=Nat.pow_pos (by decide);omega
theorem NV.nil (w:World)(A:Option Addr)(c:Nat):NV w (.slice A 0 c) 0:=
 ⟨[],⟨⟨A,c,rfl,Nat.zero_le _⟩,⟨by simp[cellsN],A,c,rfl,fun k hk=>absurd hk (by simp[cellsN])⟩,fun x hx=>by cases hx⟩,fun h=>absurd h (by simp),rfl⟩
theorem timesc_nv (v:Value)(N m c:Nat)(w:World)(k:Nat)(h:NV w v N)(hk:FB.Lt k N)(hk2:k≤10000)(hm:m<4294967296)(hc:c<4294967296) :
  Calls prog 155 #[v,.int .u32 (m:Int),.int .u32 (c:Int)] w fun e w'=>∃v',e=.returned v'∧NV w' v' (N*m+c)∧Below w.heap.size w w':=by
 obtain⟨l,h1,h2,h3⟩:=h;have hl:=h2.len (k:=k) (by rw[h3];exact hk);have:=times_any v l m c w h1 (by omega) hm hc;rw[h3]at this;exact this.mono fun _ _ h=>h.nv
theorem FB.Lt.mul' {k N m j K:Nat}(h:FB.Lt k N)(hm:m<4294967296^j)(hK:k+j=K):FB.Lt K (N*m):=by
 subst hK;exact h.mul hm
theorem two_lt32 (k j:Nat)(h:k<32*j):2^k<4294967296^j:=by
 rw[show (4294967296:Nat)=2^32 from rfl,←Nat.pow_mul];exact Nat.pow_lt_pow_right (by decide) h
theorem against_any (m:Nat)(e:Int)(vn vd:Value)(n d:Nat)(w:World)(hm:m<18446744073709551616)(he1 : -1075≤e)(he2:e≤1000)(hn:NV w vn n)(hd':NV w vd d)(hkn:FB.Lt 2000 n)(hkd:FB.Lt 2000 d) :
  Calls prog 158 #[.int .u64 (m:Int),.int .i64 e,vn,vd] w fun x w'=>x=.returned (.int .i64 (FB.cmp (m*d*2^e.toNat) (n*2^(-e).toNat)))∧Below w.heap.size w w':=by
 have HN:=hd hn;have HD:=hd hd';have hl:m/4294967296<4294967296:=(by omega);obtain⟨ld,j1,j2,j3⟩:=hd';have hld:=j2.len (k:=2000) (by rw[j3];exact hkd);have CPR:Hd (∀W,Below w.heap.size w W→∀A,IsN W A [m%4294967296,m/4294967296]→Calls prog 131 #[A,vd] W fun x w'=>∃v',x=.returned v'∧NV w' v' (m*d)∧Below W.heap.size W w'):=hd fun W hb A hA=>by
  have:=product_any A vd _ ld W hA (j1.below hb) (by simp) (by omega);rw[j3,show FB.val [m%4294967296,m/4294967296]=m by simp[FB.val];omega]at this;exact this.mono fun _ _ h=>h.nv
 have LMD:Hd (FB.Lt 2002 (m*d)):=hd (by
  rw[Nat.mul_comm];exact FB.Lt.mul' (j:=2) hkd (by rw[show (4294967296:Nat)^2=18446744073709551616 by decide];exact hm) (by decide))
 have LSH:Hd (∀a k,k≤1075→FB.Lt 2002 a→FB.Lt 2102 (a*2^k)):=hd fun a k hk h=>FB.Lt.mul' (j:=100) h (two_lt32 k 100 (Nat.lt_of_le_of_lt hk (by decide))) (by decide)
 have LUP:Hd (∀k a,k≤2102→FB.Lt k a→FB.Lt 2102 a):=hd fun k a hk h=>h.up hk
 have LUP2:Hd (FB.Lt 2000 n→FB.Lt 2002 n):=hd fun h=>h.up (by decide)
 have HKN:=hd hkn;have z1:(m:Int)%4294967296=((m%4294967296:Nat):Int):=(by omega);have z2:(m:Int)/4294967296=((m/4294967296:Nat):Int):=(by omega);have HLIT:=hd (isN_lit w #[.int .u32 ((m%4294967296:Nat):Int),.int .u32 ((m/4294967296:Nat):Int)] 142 [m%4294967296,m/4294967296] rfl (fun x hx=>by
  rcases List.mem_cons.1 hx with rfl|hx
  ·exact Nat.mod_lt _ (by decide)
  ·rcases List.mem_cons.1 hx with rfl|hx
   ·exact hl
   ·cases hx))
 have HBA:=hd ((Below.refl w.heap.size w).alloc (Nat.le_refl _) (.cells #[.int .u32 ((m%4294967296:Nat):Int),.int .u32 ((m/4294967296:Nat):Int)] 142));clear hn hkn hkd j1 j2 j3 hld;obtain⟨a0,ha0⟩:∃x,x=m%4294967296:=⟨_,rfl⟩
 obtain⟨a1,ha1⟩:∃x,x=m/4294967296:=⟨_,rfl⟩
 rw[←ha0]at z1 CPR HLIT HBA;rw[←ha1]at z2 CPR HLIT HBA hl;have hl0:a0<4294967296:=(by omega);clear ha0 ha1;by_cases hp:0≤e
 ·obtain⟨f,rfl⟩:=Int.eq_ofNat_of_zero_le hp
  have hf:f≤1075:=(by omega);have HE:Hd (((f:Nat):Int).toNat=f∧(-((f:Nat):Int)).toNat=0):=hd (by omega);have HBA2:=HBA;generalize hW1:w.alloc (.cells #[.int .u32 (a0:Int),.int .u32 (a1:Int)] 142)=W1 at HBA HLIT;clear hW1;go_enter func158,ntmps158;go_wp2_with fail
  refine(CPR.o _ HBA2.o _ (isN_lit w #[.int .u32 (a0:Int),.int .u32 (a1:Int)] 142 [a0,a1] rfl (fun x hx=>by
   rcases List.mem_cons.1 hx with rfl|hx
   ·exact hl0
   ·rcases List.mem_cons.1 hx with rfl|hx
    ·exact hl
    ·cases hx))).mono ?_
  rintro x w2 ⟨v2,rfl,h1,h2⟩;have N2:=hd h1;have B2:=hd (bel HBA2.o h2);clear h1 h2;have CS:=hd (shift_nv v2 (m*d) f w2 2002 N2.o LMD.o (by decide) (by omega));clear HBA2 z1 z2;go_wp2_with fail
  refine(CS.o).mono ?_;rintro x w3 ⟨v3,rfl,h1,h2⟩;have N3:=hd h1;have B3:=hd (bel B2.o h2);clear h1 h2;have CC:=hd (cmp_nv v3 vn _ _ w3 2102 N3.o (HN.o.below B3.o) (LSH.o _ _ hf LMD.o) (LUP.o _ _ (by decide) HKN.o) (by decide));go_wp2_with fail
  refine(CC.o).mono ?_;rintro x w4 ⟨rfl,h2⟩;have B4:=hd (bel B3.o h2);clear h2;go_wp2;go_ret;refine⟨?_,B4.o⟩;rw[HE.o.1,HE.o.2,Nat.pow_zero,Nat.mul_one];rfl
 ·obtain⟨f,rfl⟩:∃f:Nat,e = -(f:Int):=⟨(-e).toNat,by omega⟩
  have hf:f≤1075:=(by omega);have hf0:(0:Int)<(f:Int):=(by omega);have HE:Hd ((-((f:Nat):Int)).toNat=0∧(- -((f:Nat):Int)).toNat=f):=hd (by omega);have HBA2:=HBA;generalize hW1:w.alloc (.cells #[.int .u32 (a0:Int),.int .u32 (a1:Int)] 142)=W1 at HBA HLIT;clear hW1;go_enter func158,ntmps158;go_wp2_with fail
  refine(CPR.o _ HBA2.o _ (isN_lit w #[.int .u32 (a0:Int),.int .u32 (a1:Int)] 142 [a0,a1] rfl (fun x hx=>by
   rcases List.mem_cons.1 hx with rfl|hx
   ·exact hl0
   ·rcases List.mem_cons.1 hx with rfl|hx
    ·exact hl
    ·cases hx))).mono ?_
  rintro x w2 ⟨v2,rfl,h1,h2⟩;have N2:=hd h1;have B2:=hd (bel HBA2.o h2);clear h1 h2;have CS:=hd (shift_nv vn n f w2 2000 (HN.o.below B2.o) HKN.o (by decide) (by omega));clear HBA2 z1 z2;go_wp2_with fail
  refine(CS.o).mono ?_;rintro x w3 ⟨v3,rfl,h1,h2⟩;have N3:=hd h1;have B3:=hd (bel B2.o h2);have N2b:=hd (N2.o.below h2);clear h1 h2;have CC:=hd (cmp_nv v2 v3 _ _ w3 2102 N2b.o N3.o (LUP.o _ _ (by decide) LMD.o) (LSH.o _ _ hf (LUP2.o HKN.o)) (by decide));go_wp2_with fail
  refine(CC.o).mono ?_;rintro x w4 ⟨rfl,h2⟩;have B4:=hd (bel B3.o h2);clear h2;go_wp2;go_ret;refine⟨?_,B4.o⟩;rw[HE.o.1,HE.o.2,Nat.pow_zero,Nat.mul_one];rfl
theorem FB.cmp_le {x y:Nat}:(FB.cmp x y≤0)↔x≤y:=by
 unfold FB.cmp;split
 ·omega
 ·split<;>omega
theorem FB.cmp_lt0 {x y:Nat}:(FB.cmp x y<0)↔x<y:=by
 unfold FB.cmp;split
 ·omega
 ·split<;>omega
theorem FB.cmp_eq0 {x y:Nat}:(FB.cmp x y=0)↔x=y:=by
 unfold FB.cmp;split
 ·omega
 ·split<;>omega
theorem FS.eOf_le {b:Nat}(h:b<FS.INF):FS.eOf b≤971:=by
 unfold FS.INF at h;unfold FS.eOf FS.ex;split<;>omega
theorem FS.mOf_lt (b:Nat):FS.mOf b<9007199254740992:=by
 unfold FS.mOf FS.mt;split<;>omega
theorem nearest_any (vn vd:Value)(n d:Nat)(w:World)(hn:NV w vn n)(hd':NV w vd d)(hkn:FB.Lt 2000 n)(hkd:FB.Lt 2000 d)(hd0:0<d) :
  Calls prog 132 #[vn,vd] w fun x w'=>(∃b:Nat,x=.returned (.int .u64 (b:Int))∧FS.Rnd n d b)∧Below w.heap.size w w':=by
 have HN:=hd hn;have HD:=hd hd';have HAG:Hd (∀b,b<FS.INF→∀W,Below w.heap.size w W→∃r,Calls prog 158 #[.int .u64 (FS.mOf b:Int),.int .i64 (FS.eOf b),vn,vd] W (fun x w'=>x=.returned (.int .i64 r)∧Below W.heap.size W w')∧(r≤0↔FS.wl b*d≤n*FS.Z 1074)):=hd fun b hb W hW=>by
  have h1:=FS.eOf_ge b;have h2:=FS.eOf_le hb;have h3:=FS.mOf_lt b;refine⟨_,against_any (FS.mOf b) (FS.eOf b) vn vd n d W (by omega) (by omega) (by omega) (HN.o.below hW) (HD.o.below hW) hkn hkd,?_⟩;rw[FS.ag_scale _ _ _ _ 1074 (by omega),FB.cmp_le];rfl
 have HAH:Hd (∀b,b<FS.INF→∀W,Below w.heap.size w W→∃r,Calls prog 158 #[.int .u64 (2*(FS.mOf b:Int)+1),.int .i64 (FS.eOf b-1),vn,vd] W (fun x w'=>x=.returned (.int .i64 r)∧Below W.heap.size W w')∧(r<0↔FS.hf b*d<n*FS.Z 1075)∧(r=0↔FS.hf b*d=n*FS.Z 1075)):=hd fun b hb W hW=>by
  have h1:=FS.eOf_ge b;have h2:=FS.eOf_le hb;have h3:=FS.mOf_lt b;have A:=against_any (2*FS.mOf b+1) (FS.eOf b-1) vn vd n d W (by omega) (by omega) (by omega) (HN.o.below hW) (HD.o.below hW) hkn hkd;rw[show ((2*FS.mOf b+1:Nat):Int)=2*(FS.mOf b:Int)+1 by omega]at A;refine⟨_,A,?_⟩;rw[FS.ag_scale _ _ _ _ 1075 (by omega),FB.cmp_lt0,FB.cmp_eq0,show (FS.eOf b-1+((1075:Nat):Int)).toNat=(FS.eOf b+1074).toNat by omega];exact⟨Iff.rfl,Iff.rfl⟩
 have HNR:Hd (∀lo,lo<FS.INF→FS.wl lo*d≤n*FS.Z 1074→(lo+1=FS.INF∨n*FS.Z 1074<FS.wl (lo+1)*d)→((FS.hf lo*d<n*FS.Z 1075∨(FS.hf lo*d=n*FS.Z 1075∧lo%2=1))→FS.Rnd n d (lo+1))∧(¬ (FS.hf lo*d<n*FS.Z 1075∨(FS.hf lo*d=n*FS.Z 1075∧lo%2=1))→FS.Rnd n d lo)):=hd fun lo h1 h2 h3=>FS.near_rnd hd0 h1 h2 h3
 have HMB:Hd (∀b,FS.mOf b<9007199254740992):=hd FS.mOf_lt;have HEB:Hd (∀b,b<FS.INF→-1074≤FS.eOf b∧FS.eOf b≤971):=hd fun b h=>⟨FS.eOf_ge b,FS.eOf_le h⟩
 have HZ:Hd (FS.wl 0*d≤n*FS.Z 1074):=hd (by rw[FS.wl_zero,Nat.zero_mul];exact Nat.zero_le _);have HI:Hd (FS.INF=9218868437227405312):=hd rfl;have HP:Hd (∀b W,b<FS.INF→Calls prog 157 #[.int .u64 (b:Int)] W fun e w'=>e=.returned (.tuple #[.int .u64 (FS.mOf b:Int),.int .i64 (FS.eOf b)])∧W=w'):=hd fun b W h=>parts_any b W (by unfold FS.INF at h;omega)
 clear hn hd' hkn hkd;go_enter func132,ntmps132;go_wp2;go_loopw [5,6] (fun xl xh wr=>∃lo hi:Nat,lo≤hi∧hi≤9218868437227405311∧xl=.int .u64 (lo:Int)∧xh=.int .u64 (hi:Int)∧Hd (FS.wl lo*d≤n*FS.Z 1074)∧Hd (hi+1=FS.INF∨n*FS.Z 1074<FS.wl (hi+1)*d)∧Hd (Below w.heap.size w wr)) (fun xl xh wr=>(intOf xh-intOf xl).toNat)
 case atStart=>exact⟨0,9218868437227405311,by decide,by decide,rfl,rfl,HZ,hd (.inl rfl),hd (Below.refl _ _)⟩
 case round=>
  obtain⟨lo,hi,hlh,hhi,rfl,rfl,HL,HH,HB⟩:=hrel;by_cases hlt:lo<hi
  ·obtain⟨mid,hmid⟩:∃mid,mid=lo+(hi-lo+1)/2:=⟨_,rfl⟩
   have em:(lo:Int)+((hi:Int)-lo+1)/2=(mid:Int):=(by omega);have hm1:lo<mid:=(by omega);have hm2:mid≤hi:=(by omega);have hmI:mid<FS.INF:=(by have:=HI.o;omega);obtain⟨r,CA,hr⟩:=HAG.o mid hmI wr HB.o;have CP:=hd (HP.o mid wr hmI);have HCA:=hd CA;have HR:=hd hr;clear CA hr hmid;go_wp2_with (first|(go_at_call 157;(with_reducible refine CP.o.mono ?_);rintro e w' ⟨rfl,rfl⟩)|(go_at_call 158;(with_reducible refine HCA.o.mono ?_);rintro e w2 ⟨rfl,hb2⟩;have HB2:=hd (bel HB.o hb2);clear hb2;revert HB2))
   intro HB2;by_cases hr0:r≤0
   ·have HL2:=hd (HR.o.1 hr0)
    clear HR;go_wp2;go_roundw
    case rel=>exact⟨mid,hi,hm2,hhi,rfl,rfl,HL2,HH,HB2⟩
    case measure=>simp[intOf];omega
   ·have HH2:Hd (mid-1+1=FS.INF∨n*FS.Z 1074<FS.wl (mid-1+1)*d):=hd (by
     right;rw[show mid-1+1=mid by omega];exact Nat.lt_of_not_le fun h=>hr0 (HR.o.2 h))
    have em1:(mid:Int)-1=((mid-1:Nat):Int):=(by omega);have hw1:IntKind.u64.wrap ((mid:Int)-1)=((mid-1:Nat):Int):=(by rw[IntKind.wrap_u64];omega);clear HR;go_wp2;go_roundw
    case rel=>exact⟨lo,mid-1,by omega,by omega,rfl,by first|rfl|go_num,HL,HH2,HB2⟩
    case measure=>simp[intOf];omega
  ·obtain rfl:lo=hi:=by omega
   have hmI:lo<FS.INF:=(by have:=HI.o;omega);obtain⟨r,CA,hr1,hr2⟩:=HAH.o lo hmI wr HB.o;have CP:=hd (HP.o lo wr hmI);have HCA:=hd CA;have HR1:=hd hr1;have HR2:=hd hr2;obtain⟨hy,hno⟩:=HNR.o lo hmI HL.o HH.o;have HY:=hd hy;have HNO:=hd hno;have hmb:=HMB.o lo;obtain⟨he1,he2⟩:=HEB.o lo hmI;clear CA hr1 hr2 hy hno;have hmod:(lo:Int)%2=((lo%2:Nat):Int):=(by omega);go_wp2_with (first|(go_at_call 157;(with_reducible refine CP.o.mono ?_);rintro e w' ⟨rfl,rfl⟩)|(go_at_call 158;(with_reducible refine HCA.o.mono ?_);rintro e w2 ⟨rfl,hb2⟩;have HB2:=hd (bel HB.o hb2);clear hb2;revert HB2))
   intro HB2;by_cases hr0:r<0
   ·have HRN:=hd (HY.o (.inl (HR1.o.1 hr0)))
    clear HR1 HR2 HY HNO;go_wp2;go_ret;exact⟨⟨lo+1,by go_num,HRN.o⟩,HB2.o⟩
   ·by_cases hr00:r=0
    ·subst hr00
     rcases Nat.mod_two_eq_zero_or_one lo with h2|h2
     ·have HRN:=hd (HNO.o (fun h=>by
       rcases h with h|⟨_,h⟩
       ·exact hr0 (HR1.o.2 h)
       ·omega))
      rw[h2]at hmod;clear HR1 HR2 HY HNO;go_wp2;go_ret;exact⟨⟨lo,rfl,HRN.o⟩,HB2.o⟩
     ·have HRN:=hd (HY.o (.inr ⟨HR2.o.1 rfl,h2⟩))
      rw[h2]at hmod;clear HR1 HR2 HY HNO;go_wp2;go_ret;exact⟨⟨lo+1,by go_num,HRN.o⟩,HB2.o⟩
    ·have HRN:=hd (HNO.o (fun h=>by
      rcases h with h|⟨h,_⟩
      ·exact hr0 (HR1.o.2 h)
      ·exact hr00 (HR2.o.2 h)))
     have t0:(r==0)=false:=(by rw[bf];exact hr00);clear HR1 HR2 HY HNO;go_wp2;go_ret;exact⟨⟨lo,rfl,HRN.o⟩,HB2.o⟩
theorem PF.hval_lt:∀(l:List UInt8) (N:Nat),(∀c∈l,PN.hx c.toNat=true)→PF.hval l N<(N+1)*16^l.length
 |[],N,h=>by show N<(N+1)*1;omega
 |c::l,N,h=>by
  have hc:=PF.hv_lt (h c (List.mem_cons_self ..));have:=PF.hval_lt l (N*16+PF.hv c.toNat) (fun x hx=>h x (List.mem_cons_of_mem _ hx));show PF.hval l (N*16+PF.hv c.toNat)<_
  refine Nat.lt_of_lt_of_le this ?_;rw[List.length_cons,Nat.pow_succ,Nat.mul_comm (16^l.length) 16,←Nat.mul_assoc];exact Nat.mul_le_mul_right _ (by omega)
theorem PF.hval_take (l:List UInt8)(k:Nat)(h:k<l.length)(N:Nat):PF.hval (l.take (k+1)) N=PF.hval (l.take k) N*16+PF.hv (l[k]'h).toNat:=by
 rw[List.take_succ_eq_append_getElem h,PF.hval_app];rfl
theorem lt_pow32 {D k j:Nat}(h:D<16^k)(hk:k≤8*j):FB.Lt j D:=by
 unfold FB.Lt;refine Nat.lt_of_lt_of_le h ?_;rw[show (16:Nat)=2^4 from rfl,show (4294967296:Nat)=2^32 from rfl,←Nat.pow_mul,←Nat.pow_mul];exact Nat.pow_le_pow_right (by decide) (by omega)
theorem lt_of16 {D k:Nat}(h:D<16^k)(hk:k≤4000):FB.Lt 500 D:=lt_pow32 h hk
theorem lt_of10 {D k:Nat}(h:D<10^k)(hk:k≤4000):FB.Lt 500 D:=
 lt_of16 (k:=k) (Nat.lt_of_lt_of_le h (Nat.pow_le_pow_left (by decide) k)) hk
theorem numhex_any (s:ByteArray)(H:List UInt8)(w:World)(hd2:s.data.toList.drop 2=H)(h2:2<s.size)(hs:s.size≤600)(hx1:(s[1]'(by omega)).toNat=120∨(s[1]'(by omega)).toNat=88)(hx:∀c∈H,PN.hx c.toNat=true) :
  Calls prog 129 #[.string s] w fun x w'=>(∃v,x=.returned (.tuple #[v,.int .i64 0])∧NV w' v (PF.hval H 0))∧Below w.heap.size w w':=by
 have hHl:H.length+2=s.size:=(by rw[←hd2,List.length_drop,←Lib.size_eq];omega);have HAT:Hd (∀k (hk:k<H.length),∃h:k+2<s.size,H[k]'hk=s[k+2]'h):=hd fun k hk=>by
  have h:k+2<s.size:=(by omega);have a:=data_drop' s (2+k) (by omega);rw[←List.drop_drop,hd2,List.drop_eq_getElem_cons hk]at a;injection a with a1 a2
  refine⟨h,?_⟩;rw[a1];congr 1
  omega
 have HX:=hd hx;have HT:=hd (PF.hval_take H);have HLT:Hd (∀k,k≤H.length→FB.Lt 500 (PF.hval (H.take k) 0)):=hd fun k hk=>by
  have:=PF.hval_lt (H.take k) 0 (fun c hc=>hx c (List.mem_of_mem_take hc));rw[Nat.zero_add,Nat.one_mul,List.length_take]at this;exact lt_of16 this (by omega)
 have hlen:1<s.size:=(by omega);have hX:((((s[1]'hlen).toNat:Int)==120)=true)∨((((s[1]'hlen).toNat:Int)==120)=false∧(((s[1]'hlen).toNat:Int)==88)=true):=by
  rcases hx1 with h|h
  ·left;rw[h];rfl
  ·right;rw[h];exact⟨rfl,rfl⟩
 obtain⟨L,hL⟩:∃L,L=H.length:=⟨_,rfl⟩
 rw[←hL]at hHl;have HL:=hd hL;clear hd2 hx hx1 hL;rcases hX with hX|⟨hX1,hX2⟩
 all_goals
  go_enter func129,ntmps129;go_wp2;go_loopw [4,5] (fun xd xi wr=>∃(k:Nat) (A:Option Addr) (q c:Nat),k≤L∧xd=.slice A q c∧xi=.int .i64 ((k+2:Nat):Int)∧Hd (NV wr (.slice A q c) (PF.hval (H.take k) 0))∧Hd (Below w.heap.size w wr)) (fun xd xi wr=>s.size+10-(intOf xi).toNat)
  case atStart=>exact⟨0,none,0,0,Nat.zero_le _,rfl,rfl,hd (NV.nil _ _ _),hd (Below.refl _ _)⟩
  case round=>
   obtain⟨k,A,q,c,hk,rfl,rfl,HN,HB⟩:=hrel;by_cases hlt:k<L
   ·have hkH:k<H.length:=by have:=HL.o;omega
    obtain⟨hks,hat⟩:=HAT.o k hkH;have hcc:(s[k+2]'hks).toNat<256:=(s[k+2]'hks).toNat_lt;have hxk:PN.hx (s[k+2]'hks).toNat=true:=(by rw[←hat];exact HX.o _ (List.getElem_mem hkH));have hv16:=PF.hv_lt hxk;have eI:PN.hI (s[k+2]'hks).toNat=(PF.hv (s[k+2]'hks).toNat:Int):=(by unfold PN.hI;rw[if_pos hxk]);have CH:=hd (rfhex_any (s[k+2]'hks).toNat wr hcc);rw[eI]at CH;have HV:Hd (PF.hval (H.take k) 0*16+PF.hv (s[k+2]'hks).toNat=PF.hval (H.take (k+1)) 0):=hd (by rw[HT.o k hkH 0,hat]);generalize PF.hv (s[k+2]'hks).toNat=z at *
    have CT:=hd (timesc_nv (.slice A q c) (PF.hval (H.take k) 0) 16 z wr 500 HN.o (HLT.o k (by omega)) (by decide) (by decide) (by omega));rw[HV.o]at CT;clear hat hxk eI HV HAT;go_wp2_with (first|(go_at_call 153;(with_reducible refine CH.o.mono ?_);rintro e w' ⟨rfl,rfl⟩)|(go_at_call 155;refine CT.o.mono ?_;rintro e w4 ⟨v4,rfl,h1,h2⟩;have H1:=hd h1;have H2:=hd (bel HB.o h2);clear h1 h2;obtain⟨A4,n4,c4,rfl,_⟩:=NV.shape H1.o))
    go_roundw
    case rel=>exact⟨k+1,A4,n4,c4,by omega,rfl,by go_num,H1,H2⟩
    case measure=>simp[intOf];omega
   ·obtain rfl:k=L:=by omega
    have HE:Hd (NV wr (.slice A q c) (PF.hval H 0)):=hd (by
     have:=HN.o;rwa[List.take_of_length_le (by have:=HL.o;omega)]at this)
    clear HN HAT;go_wp2;go_ret2;exact⟨⟨_,rfl,HE.o⟩,HB.o⟩
theorem numdec_any (s:ByteArray)(a r:List UInt8)(w:World)(e:s.data.toList=a++r)(ha:DD a)(hr:∀c t,r=c::t→c.toNat=101∨c.toNat=69)(hch:∀x∈r.drop 1,x.toNat=45∨x.toNat=43∨(48≤x.toNat∧x.toNat≤57))(hs:s.size≤600)
  (hx:∀h:1<s.size,(s[1]'h).toNat≠120∧(s[1]'h).toNat≠88) :
  Calls prog 129 #[.string s] w fun x w'=>(∃v,x=.returned (.tuple #[v,.int .i64 (PF.rexp r-((PF.mf a PF.ls0).b:Int))])∧NV w' v (PF.mf a PF.ls0).D)∧Below w.heap.size w w':=by
 have HSZ:=hd (Lib.size_eq s);have hal:a.length+r.length=s.size:=(by rw[Lib.size_eq,e,List.length_append]);have HAT:Hd (∀k (hk:k<a.length),∃h:k<s.size,s[k]'h=a[k]'hk):=hd fun k hk=>by
  have h:k<s.size:=(by omega);have x:=data_drop' s k h;rw[e,List.drop_append_of_le_length (by omega),List.drop_eq_getElem_cons hk,List.cons_append]at x;injection x with x1 x2
  exact⟨h,x1.symm⟩
 have HDD:=hd ha;have HRD:Hd (s.data.toList.drop a.length=r):=hd (by rw[e,List.drop_left]);have HR1:Hd (s.data.toList.drop (a.length+1)=r.drop 1):=hd (by rw[←List.drop_drop,HRD.o]);have HEND:Hd (∀h:a.length<s.size,(s[a.length]'h).toNat=101∨(s[a.length]'h).toNat=69):=hd fun h=>by
  have x:=data_drop' s a.length h;rw[HRD.o]at x;exact hr _ _ x
 have HCH:=hd hch;have HX:PF.rexp r=if (PF.rloop (r.drop 1) 0 false).2 then -((PF.rloop (r.drop 1) 0 false).1:Int) else(PF.rloop (r.drop 1) 0 false).1:=by
  cases r with
  |nil=>rfl
  |cons c t=>rfl
 have HXH:=hd HX;have HT:=hd (mf_take a);have HBD:Hd (∀k,k≤a.length→(PF.mf (a.take k) PF.ls0).D<10^k∧(PF.mf (a.take k) PF.ls0).b≤k):=hd fun k=>by
  induction k with
  |zero=>intro _;simp[PF.mf,PF.ls0]
  |succ k ih=>
   intro hk;obtain⟨i1,i2⟩:=ih (by omega);rw[mf_take a k (by omega)];have:=ha _ (List.getElem_mem (show k<a.length by omega));unfold PF.mst;split
   ·exact⟨Nat.lt_of_lt_of_le i1 (Nat.pow_le_pow_right (by decide) (by omega)),by show (PF.mf (a.take k) PF.ls0).b≤k+1;omega⟩
   ·refine⟨?_,?_⟩
    ·show (PF.mf (a.take k) PF.ls0).D*10+((a[k]).toNat-48)<10^(k+1)
     rw[Nat.pow_succ];omega
    ·show (if (PF.mf (a.take k) PF.ls0).pt=true then(PF.mf (a.take k) PF.ls0).b+1 else(PF.mf (a.take k) PF.ls0).b)≤k+1
     split<;>omega
 have HXN:Hd (∀h:1<s.size,(((s[1]'h).toNat:Int)==120)=false∧(((s[1]'h).toNat:Int)==88)=false):=hd fun h=>by
  have:=hx h;exact⟨by rw[bf];omega,by rw[bf];omega⟩
 obtain⟨L,hL⟩:∃L,L=a.length:=⟨_,rfl⟩
 rw[←hL]at hal;have HL:=hd hL;have hsl:L≤s.size:=(by omega);have HAL:=hd hal;clear hx HX hch hr ha e hL hal;go_enter func129,ntmps129;go_upto_region 2 with fail
 go_cut [23] from 11 to 23 (fun v wx=>v=.bool false∧wx=w)
 case first=>
  by_cases h1:1<s.size
  ·obtain⟨x1,x2⟩:=HXN.o h1
   go_wp2;go_meet;exact⟨rfl,rfl⟩
  ·go_wp2
   go_meet;exact⟨rfl,rfl⟩
 case rest=>
  obtain⟨rfl,rfl⟩:=hcut;clear HXN;go_wp2;go_loopw [4,6,7,8] (fun xd xi xb xp wr=>∃(k b:Nat) (p:Bool) (A:Option Addr) (q c:Nat),k≤L∧b≤k∧xd=.slice A q c∧xi=.int .i64 (k:Int)∧xb=.int .i64 (b:Int)∧xp=.bool p∧Hd (b=(PF.mf (a.take k) PF.ls0).b∧p=(PF.mf (a.take k) PF.ls0).pt)∧Hd (NV wr (.slice A q c) (PF.mf (a.take k) PF.ls0).D)∧Hd (Below wc.heap.size wc wr)) (fun xd xi xb xp wr=>s.size+10-(intOf xi).toNat)
  case atStart=>exact⟨0,0,false,none,0,0,Nat.zero_le _,Nat.le_refl _,rfl,rfl,rfl,rfl,hd ⟨rfl,rfl⟩,hd (NV.nil _ _ _),hd (Below.refl _ _)⟩
  case round=>
   obtain⟨k,b,p,A,q,c,hk,hbk,rfl,rfl,rfl,rfl,HQ,HN,HB⟩:=hrel;by_cases hlt:k<L
   ·have hka:k<a.length:=by have:=HL.o;omega
    obtain⟨hks,hat⟩:=HAT.o k hka;have hcc:(s[k]'hks).toNat<256:=(s[k]'hks).toNat_lt;have hdd:(s[k]'hks).toNat=46∨(48≤(s[k]'hks).toNat∧(s[k]'hks).toNat≤57):=(by rw[hat];exact HDD.o _ (List.getElem_mem hka));have hmt:=HT.o k hka PF.ls0;rw[←hat]at hmt;have HMT:=hd hmt;clear hat hmt;have t101:(((s[k]'hks).toNat:Int)!=101)=true:=(by rw[bne_iff_ne];omega);have t69:(((s[k]'hks).toNat:Int)!=69)=true:=(by rw[bne_iff_ne];omega);by_cases c46:(s[k]'hks).toNat=46
    ·have t46:(((s[k]'hks).toNat:Int)==46)=true:=by rw[c46];rfl
     have HQ2:Hd (b=(PF.mf (a.take (k+1)) PF.ls0).b∧true=(PF.mf (a.take (k+1)) PF.ls0).pt):=hd (by
      rw[HMT.o];unfold PF.mst;rw[if_pos c46];exact⟨HQ.o.1,rfl⟩)
     have HN2:Hd (NV wr (.slice A q c) (PF.mf (a.take (k+1)) PF.ls0).D):=hd (by
      rw[HMT.o];unfold PF.mst;rw[if_pos c46];exact HN.o)
     clear c46 hdd HQ HN HMT HAT;go_wp2;go_roundw
     case rel=>exact⟨k+1,b,true,A,q,c,by omega,by omega,rfl,by go_num,rfl,rfl,HQ2,HN2,HB⟩
     case measure=>simp[intOf];omega
    ·have t46:(((s[k]'hks).toNat:Int)==46)=false:=by rw[bf];omega
     obtain⟨d1,d2⟩:=hdd.resolve_left c46;have HQ2:Hd ((if p then b+1 else b)=(PF.mf (a.take (k+1)) PF.ls0).b∧p=(PF.mf (a.take (k+1)) PF.ls0).pt):=hd (by
      rw[HMT.o];unfold PF.mst;rw[if_neg c46];obtain⟨e1,e2⟩:=HQ.o;exact⟨by rw[e1,e2],e2⟩)
     have hz:((s[k]'hks).toNat:Int)-48=(((s[k]'hks).toNat-48:Nat):Int):=(by omega);have CT:=hd (timesc_nv (.slice A q c) (PF.mf (a.take k) PF.ls0).D 10 ((s[k]'hks).toNat-48) wr 500 HN.o (lt_of10 (HBD.o k (by have:=HL.o;omega)).1 (by omega)) (by decide) (by decide) (by omega));have HE:Hd ((PF.mf (a.take k) PF.ls0).D*10+((s[k]'hks).toNat-48)=(PF.mf (a.take (k+1)) PF.ls0).D):=hd (by rw[HMT.o];unfold PF.mst;rw[if_neg c46]);rw[HE.o]at CT;rw[←hz]at CT;clear c46 hdd HQ HN HMT HAT HE hz;cases p
     ·go_wp2_with (go_at_call 155;refine CT.o.mono ?_;rintro e w4 ⟨v4,rfl,h1,h2⟩;have H1:=hd h1;have H2:=hd (bel HB.o h2);clear h1 h2;obtain⟨A4,n4,c4,rfl,_⟩:=NV.shape H1.o)
      go_roundw
      case rel=>exact⟨k+1,b,false,A4,n4,c4,by omega,by omega,rfl,by go_num,rfl,rfl,HQ2,H1,H2⟩
      case measure=>simp[intOf];omega
     ·go_wp2_with (go_at_call 155;refine CT.o.mono ?_;rintro e w4 ⟨v4,rfl,h1,h2⟩;have H1:=hd h1;have H2:=hd (bel HB.o h2);clear h1 h2;obtain⟨A4,n4,c4,rfl,_⟩:=NV.shape H1.o)
      go_roundw
      case rel=>exact⟨k+1,b+1,true,A4,n4,c4,by omega,by omega,rfl,by go_num,by go_num,rfl,HQ2,H1,H2⟩
      case measure=>simp[intOf];omega
   ·obtain rfl:k=L:=by omega
    have HE:Hd (NV wr (.slice A q c) (PF.mf a PF.ls0).D∧b=(PF.mf a PF.ls0).b):=hd (by
     have h1:=HN.o;have h2:=HQ.o.1;rw[List.take_of_length_le (by have:=HL.o;omega)]at h1 h2;exact⟨h1,h2⟩)
    have HEX:Hd (∀j (hj:j<s.size),k+1≤j→((s[j]'hj).toNat=45∨(s[j]'hj).toNat=43∨(48≤(s[j]'hj).toNat∧(s[j]'hj).toNat≤57))):=hd fun j hj hkj=>by
     have x:=data_drop' s j hj;refine HCH.o _ ?_;rw[←HR1.o];have:s.data.toList.drop j=(s.data.toList.drop (a.length+1)).drop (j-(a.length+1)):=(by rw[List.drop_drop];congr 1;have:=HL.o;omega);exact List.mem_of_mem_drop (i:=j-(a.length+1)) (by rw[←this,x];exact List.mem_cons_self ..)
    have HEN:Hd (∀h:k<s.size,(s[k]'h).toNat=101∨(s[k]'h).toNat=69):=hd fun h=>by
     have h':a.length<s.size:=(by have:=HL.o;omega);have:=HEND.o h';have e:s[a.length]'h'=s[k]'h:=(by congr 1;exact HL.o.symm);rw[e]at this;exact this
    have HRL:Hd (PF.rloop (s.data.toList.drop (k+1)) 0 false=PF.rloop (r.drop 1) 0 false):=hd (by rw[HL.o,HR1.o]);obtain⟨Z,hZ⟩:∃Z,Z=PF.rloop (r.drop 1) 0 false:=⟨_,rfl⟩
    rw[←hZ]at HRL HXH;clear HN HQ HAT HEND HR1 HRD HCH hZ HT HBD HDD hlt HAL;have step:∀(X:Prop),X→X:=fun _ h=>h
    by_cases hks:k<s.size
    ·have hcc:(s[k]'hks).toNat<256:=(s[k]'hks).toNat_lt
     have hend:=HEN.o hks;have tt:((((s[k]'hks).toNat:Int)!=101)=false)∨((((s[k]'hks).toNat:Int)!=101)=true∧(((s[k]'hks).toNat:Int)!=69)=false):=by
      rcases hend with h|h
      ·left;rw[h];rfl
      ·right;rw[h];exact⟨rfl,rfl⟩
     clear hend HEN step;rcases tt with t101|⟨t101,t69⟩
     all_goals
      go_wp2;go_loopw [6,9,10] (fun xi xp xm wq=>∃(j p:Nat) (mi:Bool),k+1≤j∧j≤s.size+1∧Hd (p≤1000000)∧xi=.int .i64 (j:Int)∧xp=.int .i64 (p:Int)∧xm=.bool mi∧Hd (PF.rloop (s.data.toList.drop j) p mi=Z)∧wq=wr) (fun xi xp xm wq=>s.size+10-(intOf xi).toNat)
      case atStart=>exact⟨k+1,0,false,Nat.le_refl _,by omega,hd (by decide),by go_num,rfl,rfl,HRL,rfl⟩
      case round=>
       obtain⟨j,p,mi,hkj,hjs,HP,rfl,rfl,rfl,HR,rfl⟩:=hrel;by_cases hjl:j<s.size
       ·have HDR:=hd (data_drop' s j hjl)
        have hjc:(s[j]'hjl).toNat<256:=(s[j]'hjl).toNat_lt;have hcl:=HEX.o j hjl hkj;by_cases c45:(s[j]'hjl).toNat=45
        ·have q45:(((s[j]'hjl).toNat:Int)==45)=true:=by rw[c45];rfl
         have HR2:Hd (PF.rloop (s.data.toList.drop (j+1)) p true=Z):=hd (by rw[←HR.o,HDR.o,PF.rloop,if_pos c45]);clear c45 HR HDR hcl;go_wp2;go_roundw
         case rel=>exact⟨j+1,p,true,by omega,by omega,HP,by go_num,rfl,rfl,HR2,trivial⟩
         case measure=>simp[intOf];omega
        ·have q45:(((s[j]'hjl).toNat:Int)==45)=false:=by rw[bf];omega
         by_cases c43:(s[j]'hjl).toNat=43
         ·have q43:(((s[j]'hjl).toNat:Int)!=43)=false:=by rw[c43];rfl
          have HR2:Hd (PF.rloop (s.data.toList.drop (j+1)) p mi=Z):=hd (by rw[←HR.o,HDR.o,PF.rloop,if_neg c45,if_neg (by omega)]);clear c45 c43 HR HDR hcl;go_wp2;go_roundw
          case rel=>exact⟨j+1,p,mi,by omega,by omega,HP,by go_num,rfl,rfl,HR2,trivial⟩
          case measure=>simp[intOf];omega
         ·have q43:(((s[j]'hjl).toNat:Int)!=43)=true:=by rw[bne_iff_ne];omega
          obtain⟨d1,d2⟩:=(hcl.resolve_left c45).resolve_left c43;by_cases hp5:p<100000
          ·have HR2:Hd (PF.rloop (s.data.toList.drop (j+1)) (p*10+((s[j]'hjl).toNat-48)) mi=Z):=hd (by rw[←HR.o,HDR.o,PF.rloop,if_neg c45,if_pos ⟨c43,hp5⟩])
           have q5:((p:Int)<100000)=True:=eq_true (by omega);have w1:IntKind.i64.wrap ((p:Int)*10)=(p:Int)*10:=(by rw[IntKind.wrap_i64];omega);have w2:IntKind.i64.wrap ((p:Int)*10+(((s[j]'hjl).toNat:Int)-48))=(p:Int)*10+(((s[j]'hjl).toNat:Int)-48):=(by rw[IntKind.wrap_i64];omega);have HP2:Hd (p*10+((s[j]'hjl).toNat-48)≤1000000):=hd (by omega);clear c45 c43 HR HDR hcl hp5;go_wp2;go_roundw
           case rel=>exact⟨j+1,_,mi,by omega,by omega,HP2,by go_num,by go_num,rfl,HR2,trivial⟩
           case measure=>simp[intOf];omega
          ·have HR2:Hd (PF.rloop (s.data.toList.drop (j+1)) p mi=Z):=hd (by rw[←HR.o,HDR.o,PF.rloop,if_neg c45,if_neg (fun hh=>hp5 hh.2)])
           have q5:((p:Int)<100000)=False:=eq_false (by omega);clear c45 c43 HR HDR hcl hp5;go_wp2;go_roundw
           case rel=>exact⟨j+1,p,mi,by omega,by omega,HP,by go_num,rfl,rfl,HR2,trivial⟩
           case measure=>simp[intOf];omega
       ·have HZ:Hd (Z=(p,mi)):=hd (by
         have:=HR.o;rw[List.drop_eq_nil_of_le (by have:=HSZ.o;omega)]at this;exact this.symm)
        rw[HZ.o]at HXH;clear HR HZ;cases mi
        ·have HF:Hd (PF.rexp r-((PF.mf a PF.ls0).b:Int)=(p:Int)-(b:Int)):=hd (by rw[HXH.o,←HE.o.2];rfl)
         have w1:IntKind.i64.wrap (-(p:Int)) = -(p:Int):=(by have:=HP.o;rw[IntKind.wrap_i64];omega);have w2:IntKind.i64.wrap ((p:Int)-(b:Int))=(p:Int)-(b:Int):=(by have:=HP.o;rw[IntKind.wrap_i64];omega);have w3:IntKind.i64.wrap (-(p:Int)-(b:Int)) = -(p:Int)-(b:Int):=by have:=HP.o;rw[IntKind.wrap_i64];omega
         go_wp2;go_ret2;exact⟨⟨_,by rw[HF.o];rfl,HE.o.1⟩,HB.o⟩
        ·have HF:Hd (PF.rexp r-((PF.mf a PF.ls0).b:Int) = -(p:Int)-(b:Int)):=hd (by rw[HXH.o,←HE.o.2];rfl)
         have w1:IntKind.i64.wrap (-(p:Int)) = -(p:Int):=(by have:=HP.o;rw[IntKind.wrap_i64];omega);have w2:IntKind.i64.wrap ((p:Int)-(b:Int))=(p:Int)-(b:Int):=(by have:=HP.o;rw[IntKind.wrap_i64];omega);have w3:IntKind.i64.wrap (-(p:Int)-(b:Int)) = -(p:Int)-(b:Int):=by have:=HP.o;rw[IntKind.wrap_i64];omega
         go_wp2;go_ret2;exact⟨⟨_,by rw[HF.o];rfl,HE.o.1⟩,HB.o⟩
    ·have HZ:Hd (Z=(0,false)):=hd (by
      have:=HRL.o;rw[List.drop_eq_nil_of_le (by have:=HSZ.o;omega)]at this;exact this.symm)
     rw[HZ.o]at HXH;have HF:Hd (PF.rexp r-((PF.mf a PF.ls0).b:Int)=0-(b:Int)):=hd (by rw[HXH.o,←HE.o.2];rfl);obtain rfl:k=s.size:=by omega
     clear HRL HZ step;go_wp2;go_loopw [6,9,10] (fun xi xp xm wq=>xi=.int .i64 ((s.size+1:Nat):Int)∧xp=.int .i64 0∧xm=.bool false∧wq=wr) (fun xi xp xm wq=>0)
     case atStart=>exact⟨by go_num,rfl,rfl,rfl⟩
     case round=>
      obtain⟨rfl,rfl,rfl,rfl⟩:=hrel;go_wp2;go_ret2;exact⟨⟨_,by rw[HF.o];first|rfl|simp,HE.o.1⟩,HB.o⟩
abbrev infW:ByteArray:=⟨#[105,110,102]⟩
abbrev nanW:ByteArray:=⟨#[110,97,110]⟩
def rdTup (f:Nat)(e:Int):Value:=.tuple #[.float .f64 f,.int .i64 e]
def LxV (l:List UInt8)(b:Nat):Prop:=
 (PN.hexHead l=true∧PVal (PF.hval (l.drop 2) 0) 0 b)∨
 (PN.hexHead l=false∧∃a r,l=a++r∧DD a∧(∀c t,r=c::t→c.toNat=101∨c.toNat=69)∧PVal (PF.mf a PF.ls0).D (PF.expOf r-((PF.mf a PF.ls0).b:Int)) b)
theorem LxV.ext {l:List UInt8}{b c:Nat}(h:LxV l b)(k:LxV l c):b=c:=by
 rcases h with ⟨h1,h2⟩|⟨h1,a,r,h2,h3,h4,h5⟩
 ·rcases k with ⟨k1,k2⟩|⟨k1,_⟩
  ·exact h2.ext k2
  ·rw[h1]at k1;cases k1
 ·rcases k with ⟨k1,_⟩|⟨k1,a',r',k2,k3,k4,k5⟩
  ·rw[h1]at k1;cases k1
  ·obtain⟨rfl,rfl⟩:=split_unique a a' r r' (h2.symm.trans k2) h3 k3 h4 k4
   exact h5.ext k5
theorem LxV.le {l:List UInt8}{b:Nat}(h:LxV l b):b≤FS.INF:=by
 rcases h with ⟨_,h⟩|⟨_,a,r,_,_,_,h⟩<;>exact h.le
def RdOk (s:ByteArray)(v:Value):Prop:=
 (512<s.size∧v=rdTup 0 1)∨
 (s.size≤512∧Wd s infW∧v=rdTup 9218868437227405312 0)∨
 (s.size≤512∧¬ Wd s infW∧Wd s nanW∧v=rdTup 9221120237041090561 0)∨
 (s.size≤512∧¬ Wd s infW∧¬ Wd s nanW∧(s.size=0∨PN.pfx s.data.toList≠s.size)∧v=rdTup 0 20)∨
 (s.size≤512∧¬ Wd s infW∧¬ Wd s nanW∧0<s.size∧PN.pfx s.data.toList=s.size∧∃b,LxV s.data.toList b∧v=RdAns b)
theorem RdOk.ext {s:ByteArray}{v u:Value}(h:RdOk s v)(k:RdOk s u):v=u:=by
 rcases h with ⟨h1,h2⟩|⟨h1,h2,h3⟩|⟨h1,h2,h3,h4⟩|⟨h1,h2,h3,h4,h5⟩|⟨h1,h2,h3,h4,h5,b,h6,h7⟩<;>
 rcases k with ⟨k1,k2⟩|⟨k1,k2,k3⟩|⟨k1,k2,k3,k4⟩|⟨k1,k2,k3,k4,k5⟩|⟨k1,k2,k3,k4,k5,c,k6,k7⟩
 all_goals first
  |(exfalso;omega)
  |(exfalso;exact h2 k2)
  |(exfalso;exact k2 h2)
  |(exfalso;exact h3 k3)
  |(exfalso;exact k3 h3)
  |(rw[h2,k2];done)
  |(rw[h3,k3];done)
  |(rw[h4,k4];done)
  |(rw[h5,k5];done)
  |(rw[h7,k7,h6.ext k6];done)
  |(exfalso;rcases h4 with h4|h4;omega;exact h4 k5)
  |(exfalso;rcases k4 with k4|k4;omega;exact k4 h5)
theorem RdOk.shape {s:ByteArray}{v:Value}(h:RdOk s v):∃(b:Nat) (e:Int),v=rdTup b e∧b<9223372036854775808∧0≤e∧e≤21:=by
 rcases h with ⟨h1,h2⟩|⟨h1,h2,h3⟩|⟨h1,h2,h3,h4⟩|⟨h1,h2,h3,h4,h5⟩|⟨h1,h2,h3,h4,h5,b,h6,h7⟩
 ·exact⟨_,_,h2,by decide,by decide,by decide⟩
 ·exact⟨_,_,h3,by decide,by decide,by decide⟩
 ·exact⟨_,_,h4,by decide,by decide,by decide⟩
 ·exact⟨_,_,h5,by decide,by decide,by decide⟩
 ·have:=h6.le
  have hI:FS.INF=9218868437227405312:=rfl;unfold RdAns at h7;split at h7
  ·exact⟨_,_,h7,by decide,by decide,by decide⟩
  ·exact⟨_,_,h7,by omega,by decide,by decide⟩
theorem dec_parts (s:ByteArray)(hs:s.size≤512)(h:PN.pfx s.data.toList=s.size)(h0:0<s.size)(hh:PN.hexHead s.data.toList=false) :
  ∃a r,s.data.toList=a++r∧DD a∧(∀c t,r=c::t→c.toNat=101∨c.toNat=69)∧PF.expOk r∧(∀c∈s.data.toList,c.toNat=46∨(48≤c.toNat∧c.toNat≤57)∨c.toNat=101∨c.toNat=69∨c.toNat=43∨c.toNat=45)∧((s[0]'h0).toNat=46∨(48≤(s[0]'h0).toNat∧(s[0]'h0).toNat≤57)):=by
 obtain⟨st,r',Dc,chars,first⟩:=dec_of s (by omega) h h0 hh;obtain⟨a',e2,ha',I⟩:=PF.loop_val _ _ _ _ _ Dc.lp PF.Inv.start;refine⟨a',r',e2,ha',fun c t h=>?_,Dc.ex,chars,first⟩;have:=Dc.ex;rw[h]at this;exact this.1
theorem expOk_chars {r:List UInt8}(h:PF.expOk r):∀x∈r.drop 1,x.toNat=45∨x.toNat=43∨(48≤x.toNat∧x.toNat≤57):=by
 cases r with
 |nil=>intro x hx;cases hx
 |cons c t=>
  obtain⟨h1,h2,h3⟩:=h;intro x hx;have hx:x∈t:=hx;cases t with
  |nil=>cases hx
  |cons d u=>
   rw[PN.sgl_cons]at h3;by_cases hs:d.toNat=43∨d.toNat=45
   ·rw[if_pos hs]at h3
    rcases List.mem_cons.1 hx with rfl|hx
    ·omega
    ·exact .inr (.inr (h3 x hx))
   ·rw[if_neg hs]at h3
    exact .inr (.inr (h3 x hx))
theorem mf_bd:∀(a:List UInt8) (Q:PF.LS),DD a→(PF.mf a Q).D<(Q.D+1)*10^a.length∧(PF.mf a Q).b≤Q.b+a.length
 |[],Q,h=>⟨by show Q.D<(Q.D+1)*1;omega,by show Q.b≤Q.b+0;omega⟩
 |c::a,Q,h=>by
  have hc:=h c (List.mem_cons_self ..);obtain⟨i1,i2⟩:=mf_bd a (PF.mst Q c.toNat) (fun x hx=>h x (List.mem_cons_of_mem _ hx));have e:(PF.mst Q c.toNat).D+1≤(Q.D+1)*10∧(PF.mst Q c.toNat).b≤Q.b+1:=by
   unfold PF.mst;split
   ·exact⟨by show Q.D+1≤_;omega,by show Q.b≤Q.b+1;omega⟩
   ·refine⟨by show Q.D*10+(c.toNat-48)+1≤_;omega,?_⟩
    show (if Q.pt=true then Q.b+1 else Q.b)≤Q.b+1
    split<;>omega
  constructor
  ·show (PF.mf a (PF.mst Q c.toNat)).D<_
   refine Nat.lt_of_lt_of_le i1 ?_;rw[List.length_cons,Nat.pow_succ,Nat.mul_comm (10^a.length) 10,←Nat.mul_assoc];exact Nat.mul_le_mul_right _ e.1
  ·show (PF.mf a (PF.mst Q c.toNat)).b≤_
   rw[List.length_cons];have:=e.2;omega
theorem hex_parts (l:List UInt8)(h:PN.hexHead l=true)(hp:PN.pfx l=l.length):2<l.length∧(∀x∈l.drop 2,PN.hx x.toNat=true)∧∃(a b:UInt8) (t:List UInt8),l=a::b::t∧a.toNat=48∧(b.toNat=120∨b.toNat=88):=by
 unfold PN.pfx at hp;rw[if_pos h]at hp
 match l,h,hp with
 |a::b::c::t,h,hp=>
  unfold PN.hexHead at h;have h:=of_decide_eq_true h;refine⟨by simp,?_,a,b,c::t,rfl,h.1,h.2.1⟩;have hs:PN.spn PN.hx (c::t)=(c::t).length:=by
   have:(a::b::c::t).drop 2=c::t:=rfl;rw[this]at hp;simp only[List.length_cons]at hp ⊢;omega
  intro x hx;have hx:x∈c::t:=hx;generalize c::t=l at hs hx;clear hp h;induction l with
  |nil=>cases hx
  |cons y l ih=>
   cases hy:PN.hx y.toNat with
   |false=>rw[PN.spn_no hy]at hs;simp at hs
   |true=>
    rw[PN.spn_yes hy,List.length_cons]at hs;rcases List.mem_cons.1 hx with rfl|hx
    ·exact hy
    ·exact ih (by omega) hx
theorem not_word {s v:ByteArray}(h0:0<s.size)(hv:0<v.size)(h:PF.low (s[0]'h0).toNat≠(v[0]'hv).toNat):¬ Wd s v:=fun hw=>h (hw.2 0 h0 hv)
structure RfN (s:ByteArray)(D:Nat)(q:Int):Prop where
 lt:q < -1000→D<FS.X 600
 l5:FB.Lt 600 D
 q1 : -2000000≤q
 q2:q≤2000000
 v:∀b,PVal D q b→LxV s.data.toList b
theorem X_pow (k:Nat):FS.X k=10^k:=rfl
theorem rfnum_any (s:ByteArray)(w:World)(hs:s.size≤512)(h0:0<s.size)(hp:PN.pfx s.data.toList=s.size) :
  ∃D q,RfN s D q∧Calls prog 129 #[.string s] w fun x w'=>(∃v,x=.returned (.tuple #[v,.int .i64 q])∧NV w' v D)∧Below w.heap.size w w':=by
 have hsz:=Lib.size_eq s;cases hh:PN.hexHead s.data.toList with
 |true=>
  obtain⟨h2,hx,a,b,t,el,ha,hb⟩:=hex_parts _ hh (by omega);have b1:(s[1]'(by omega)).toNat=120∨(s[1]'(by omega)).toNat=88:=by
   have x:=data_drop' s 1 (by omega);rw[el]at x;injection x with x1 x2
   rw[←x1];exact hb
  have hbd:=PF.hval_lt (s.data.toList.drop 2) 0 hx;rw[Nat.zero_add,Nat.one_mul,List.length_drop]at hbd;refine⟨PF.hval (s.data.toList.drop 2) 0,0,⟨fun h=>absurd h (by decide),(lt_of16 hbd (by omega)).up (by decide),by decide,by decide,fun b hv=>.inl ⟨hh,hv⟩⟩,numhex_any s _ w rfl (by omega) (by omega) b1 hx⟩
 |false=>
  obtain⟨a,r,e,hda,hr,hok,chars,first⟩:=dec_parts s hs hp h0 hh;have hbd:=mf_bd a PF.ls0 hda;have hal:a.length≤512:=by
   have:=congrArg List.length e;rw[List.length_append]at this;omega
  have hD:(PF.mf a PF.ls0).D<10^a.length:=(by have:=hbd.1;rwa[show PF.ls0.D=0 from rfl,Nat.zero_add,Nat.one_mul]at this);have hb:(PF.mf a PF.ls0).b≤a.length:=(by have:=hbd.2;rwa[show PF.ls0.b=0 from rfl,Nat.zero_add]at this);obtain⟨k1,k2,k3⟩:=PF.rexp_both hok;have hX:(PF.mf a PF.ls0).D<FS.X 600:=Nat.lt_of_lt_of_le hD (by rw[←X_pow];exact FS.X_mono (by omega));refine⟨(PF.mf a PF.ls0).D,PF.rexp r-((PF.mf a PF.ls0).b:Int),⟨fun _=>hX,(lt_of10 hD (by omega)).up (by decide),by omega,by omega,fun b hv=>?_⟩,?_⟩
  ·obtain⟨b',hb'⟩:∃b',PVal (PF.mf a PF.ls0).D (PF.expOf r-((PF.mf a PF.ls0).b:Int)) b':=by
    rcases Nat.eq_zero_or_pos (PF.mf a PF.ls0).D with d0|d0
    ·exact⟨0,.inl ⟨d0,rfl⟩⟩
    ·rcases k1 with k1|⟨k1,k1'⟩|⟨k1,k1'⟩
     ·rw[←k1];exact⟨b,hv⟩
     ·exact⟨FS.INF,.inr ⟨d0,FS.big_rnd d0 (by omega)⟩⟩
     ·exact⟨0,nil_rnd d0 hX (by omega)⟩
   have:b=b':=pval_same hX (by omega) hv hb';subst this;exact .inr ⟨hh,a,r,e,hda,hr,hb'⟩
  ·exact numdec_any s a r w e hda hr (expOk_chars hok) (by omega) (fun h=>by
    have:=chars _ (mem_data h)
    constructor
    ·intro hx;omega
    ·intro hx;omega)
theorem pval_exact_neg {D b:Nat}(h:0<D){j:Nat}(R:FS.Rnd D (10^j) b):PVal D (-(j:Int)) b:=by
 refine .inr ⟨h,?_⟩;have e1:FS.vN D (-(j:Int))=D:=(by unfold FS.vN;rw[show (-(j:Int)).toNat=0 by omega];exact Nat.mul_one D);have e2:FS.vD (-(j:Int))=10^j:=(by unfold FS.vD;rw[Int.neg_neg,Int.toNat_natCast];rfl);rw[e1,e2];exact R
theorem pval_exact_pos {D b:Nat}(h:0<D){j:Nat}(R:FS.Rnd (D*10^j) 1 b):PVal D (j:Int) b:=by
 refine .inr ⟨h,?_⟩;have e1:FS.vN D (j:Int)=D*10^j:=(by unfold FS.vN;rw[Int.toNat_natCast];rfl);have e2:FS.vD (j:Int)=1:=(by unfold FS.vD;rw[show (-(j:Int)).toNat=0 by omega];rfl);rw[e1,e2];exact R
theorem inf_letters:∀i (h:i<infW.size),97≤(infW[i]'h).toNat∧(infW[i]'h).toNat≤122:=by decide
theorem nan_letters:∀i (h:i<nanW.size),97≤(nanW[i]'h).toNat∧(nanW[i]'h).toNat≤122:=by decide
theorem rdAns_inf {b:Nat}(h:b=FS.INF):RdAns b=rdTup 0 21:=by unfold RdAns rdTup;rw[if_pos h]
theorem rdAns_fin {b:Nat}(h:b≠FS.INF):RdAns b=rdTup b 0:=by unfold RdAns rdTup;rw[if_neg h]
theorem rfread_any (s:ByteArray)(w:World)(hs:s.size≤1125899906842624) :
  Calls prog 95 #[.string s] w fun x w'=>(∃v,RdOk s v∧x=.returned v)∧Below w.heap.size w w':=by
 by_cases hlong:512<s.size
 ·have HOK:Hd (RdOk s (rdTup 0 1)):=hd (.inl ⟨hlong,rfl⟩)
  have t:((512:Int)<(s.size:Int))=True:=(by apply eq_true;omega);go_enter func95,ntmps95;go_wp2;go_ret2;exact⟨⟨_,HOK.o,rfl⟩,Below.refl _ _⟩
 have t:((512:Int)<(s.size:Int))=False:=(by apply eq_false;omega);have HW1:=hd (fun W=>rfword_any s infW W (by decide) inf_letters);have HW2:=hd (fun W=>rfword_any s nanW W (by decide) nan_letters);have qI:∀W,(callFunc 128 #[.int .u64 9218868437227405312]).run prog W=.ok (.value (.float .f64 9218868437227405312)) W:=fun W=>mfrom_run 9218868437227405312 W
 have qN:∀W,(callFunc 128 #[.int .u64 9221120237041090561]).run prog W=.ok (.value (.float .f64 9221120237041090561)) W:=fun W=>mfrom_run 9221120237041090561 W
 have hs5:s.size≤512:=(by omega);go_enter func95,ntmps95;go_wp2_with fail
 refine(HW1.o _).mono ?_;rintro x w1 ⟨hb1,b1,hw1,rfl⟩;have B1:=hd hb1;have hw1:=hd hw1;clear hb1;cases b1 with
 |true=>
  have HOK:Hd (RdOk s (rdTup 9218868437227405312 0)):=hd (.inr (.inl ⟨hs5,hw1.o.1 rfl,rfl⟩));go_wp2;go_ret2;exact⟨⟨_,HOK.o,rfl⟩,B1.o⟩
 |false=>
  have HN1:Hd (¬ Wd s infW):=hd (fun h=>by have:=hw1.o.2 h;cases this);clear hw1;go_wp2_with fail
  refine(HW2.o _).mono ?_;rintro x w2 ⟨hb2,b2,hw2,rfl⟩;have B2:=hd (bel B1.o hb2);have hw2:=hd hw2;clear hb2;cases b2 with
  |true=>
   have HOK:Hd (RdOk s (rdTup 9221120237041090561 0)):=hd (.inr (.inr (.inl ⟨hs5,HN1.o,hw2.o.1 rfl,rfl⟩)));go_wp2;go_ret2;exact⟨⟨_,HOK.o,rfl⟩,B2.o⟩
  |false=>
   have HN2:Hd (¬ Wd s nanW):=hd (fun h=>by have:=hw2.o.2 h;cases this);clear hw2 qI qN;by_cases h0:s.size=0
   ·have HOK:Hd (RdOk s (rdTup 0 20)):=hd (.inr (.inr (.inr (.inl ⟨hs5,HN1.o,HN2.o,.inl h0,rfl⟩))))
    have t0:((s.size:Int)==0)=true:=(by rw[beq_iff_eq];omega);go_wp2;go_ret2;exact⟨⟨_,HOK.o,rfl⟩,B2.o⟩
   have t0:((s.size:Int)==0)=false:=(by rw[bf];omega);have CP:=hd (fun W=>rfprefix_any s W (by omega));by_cases hp:PN.pfx s.data.toList=s.size
   ·have HP:=hd hp
    have tp:((s.size:Int)!=(s.size:Int))=false:=(by rw[bne_eq_false_iff_eq]);rw[hp]at CP;obtain⟨D,q,hR,hC⟩:=rfnum_any s w2 hs5 (by omega) hp;have HR:=hd hR;have HC:=hd hC;have q1:=hR.q1;have q2:=hR.q2;have h0':¬ s.size=0:=h0;clear hR hC hp;have FIN:Hd (∀b,LxV s.data.toList b→RdOk s (RdAns b)):=hd fun b hb=>.inr (.inr (.inr (.inr ⟨hs5,HN1.o,HN2.o,by omega,HP.o,b,hb,rfl⟩)))
    go_wp2_with (go_at_call 93;(with_reducible refine(CP.o _).mono ?_);rintro e w' ⟨rfl,rfl⟩)
    refine HC.o.mono ?_;rintro x w3 ⟨⟨v,rfl,hv⟩,hb3⟩;have B3:=hd (bel B2.o hb3);have NV3:=hd hv;obtain⟨A,n,c,rfl,hn⟩:=NV.shape hv;clear hb3 hv HC HW1 HW2;by_cases hD:D=0
    ·have HOK:Hd (RdOk s (rdTup 0 0)):=hd (by
      have:=FIN.o 0 (HR.o.v 0 (.inl ⟨hD,rfl⟩));rwa[rdAns_fin (by decide)]at this)
     have hn0:=hn.2 hD;clear hn hD;subst hn0;go_wp2;go_ret2;exact⟨⟨_,HOK.o,rfl⟩,B3.o⟩
    have hDp:0<D:=(by omega);have tn:((n:Int)==0)=false:=(by rw[bf];intro h;exact hD (hn.1 (by omega)));clear hn hD;by_cases hq4:400<q
    ·have HOK:Hd (RdOk s (rdTup 0 21)):=hd (by
      have:=FIN.o FS.INF (HR.o.v _ (.inr ⟨hDp,FS.big_rnd hDp (by omega)⟩));rwa[rdAns_inf rfl]at this)
     clear q1 q2 hDp;go_wp2;go_ret2;exact⟨⟨_,HOK.o,rfl⟩,B3.o⟩
    by_cases hq1:q < -1000
    ·have HOK:Hd (RdOk s (rdTup 0 0)):=hd (by
      have:=FIN.o 0 (HR.o.v _ (nil_rnd hDp (HR.o.lt hq1) hq1));rwa[rdAns_fin (by decide)]at this)
     clear q1 q2 hDp;go_wp2;go_ret2;exact⟨⟨_,HOK.o,rfl⟩,B3.o⟩
    clear q1 q2;by_cases hneg:q<0
    ·obtain⟨j,rfl⟩:∃j:Nat,q = -(j:Int):=⟨(-q).toNat,by omega⟩
     have hj0:(0:Int)<(j:Int):=(by omega);have hj1:j≤1000:=(by omega);have HBA:=hd ((Below.refl w3.heap.size w3).alloc (Nat.le_refl _) (.cells #[.int .u32 1] 142));have CPW:=hd (fun W=>pow_nv j W (by omega));have LP:Hd (FB.Lt 2000 (10^j)):=hd (FB.Lt.up (k:=j+1) (FB.ten_lt j) (by omega));have LD:Hd (FB.Lt 2000 D):=hd (HR.o.l5.up (by decide));have HPV:Hd (∀b,FS.Rnd D (10^j) b→RdOk s (RdAns b)∧b≤FS.INF):=hd fun b hb=>⟨FIN.o b (HR.o.v b (pval_exact_neg hDp hb)),hb.le⟩
     have CN:Hd (∀W v2,NV W v2 (10^j)→NV W (.slice A n c) D→Calls prog 132 #[.slice A n c,v2] W fun x w'=>(∃b:Nat,x=.returned (.int .u64 (b:Int))∧FS.Rnd D (10^j) b)∧Below W.heap.size W w'):=hd fun W v2 h1 h2=>nearest_any _ v2 D (10^j) W h2 h1 LD.o LP.o (Nat.pow_pos (by decide))
     clear hDp FIN HR LD LP;go_wp2_with fail
     refine(CPW.o _).mono ?_;rintro x w4 ⟨v4,rfl,h1,h2⟩;have N4:=hd h1;have B34:=hd (bel HBA.o h2);clear h1 h2;go_wp2_with fail
     refine(CN.o _ v4 N4.o (NV3.o.below B34.o)).mono ?_;rintro x w5 ⟨⟨b,rfl,hR⟩,h2⟩;have B5:=hd (bel B3.o (bel B34.o h2));obtain⟨o1,o2⟩:=HPV.o b hR;have HO:=hd o1;clear h2 hR o1 HPV;have hI:FS.INF=9218868437227405312:=rfl;by_cases hb:b=FS.INF
     ·have HOK:Hd (RdOk s (rdTup 0 21)):=hd (by have:=HO.o;rwa[rdAns_inf hb]at this)
      have tb:((9218868437227405312:Int)≤(b:Int))=True:=eq_true (by omega);clear hb o2 hI;go_wp2;go_ret2;exact⟨⟨_,HOK.o,rfl⟩,B5.o⟩
     ·have HOK:Hd (RdOk s (rdTup b 0)):=hd (by have:=HO.o;rwa[rdAns_fin hb]at this)
      have tb:((9218868437227405312:Int)≤(b:Int))=False:=eq_false (by omega);have qb:∀W,(callFunc 128 #[.int .u64 b]).run prog W=.ok (.value (.float .f64 b)) W:=fun W=>mfrom_run b W
      clear hb o2 hI;go_wp2;go_ret2;exact⟨⟨_,HOK.o,rfl⟩,B5.o⟩
    ·obtain⟨j,rfl⟩:=Int.eq_ofNat_of_zero_le (show 0≤q by omega)
     have hj1:j≤400:=(by omega);have HBA:=hd ((Below.refl w3.heap.size w3).alloc (Nat.le_refl _) (.cells #[.int .u32 1] 142));have CPW:=hd (fun W=>pow_nv j W (by omega));have LP:Hd (FB.Lt 2000 (10^j)):=hd (FB.Lt.up (k:=j+1) (FB.ten_lt j) (by omega));have LD:Hd (FB.Lt 2000 D):=hd (HR.o.l5.up (by decide));have LM:Hd (FB.Lt 2000 (D*10^j)):=hd (FB.Lt.up (k:=600+(j+1)) (HR.o.l5.mul (FB.ten_lt j)) (by omega));have L1:Hd (FB.Lt 2000 1):=hd (FB.Lt.up (k:=1) (by unfold FB.Lt;decide) (by decide))
     have HPV:Hd (∀b,FS.Rnd (D*10^j) 1 b→RdOk s (RdAns b)∧b≤FS.INF):=hd fun b hb=>⟨FIN.o b (HR.o.v b (pval_exact_pos hDp hb)),hb.le⟩
     have CM:Hd (∀W v2,NV W v2 (10^j)→NV W (.slice A n c) D→Calls prog 131 #[.slice A n c,v2] W fun x w'=>∃v',x=.returned v'∧NV w' v' (D*10^j)∧Below W.heap.size W w'):=hd fun W v2 h1 h2=>prod_nv _ v2 D (10^j) W 2000 h2 h1 LD.o LP.o (by decide)
     have CN:Hd (∀W v1 v2,NV W v1 (D*10^j)→NV W v2 1→Calls prog 132 #[v1,v2] W fun x w'=>(∃b:Nat,x=.returned (.int .u64 (b:Int))∧FS.Rnd (D*10^j) 1 b)∧Below W.heap.size W w'):=hd fun W v1 v2 h1 h2=>nearest_any v1 v2 _ 1 W h1 h2 LM.o L1.o (by decide)
     have NL:Hd (NV (w3.alloc (.cells #[.int .u32 1] 142)) (.slice (some ⟨w3.heap.size,0,none⟩) 1 1) 1):=hd ⟨[1],isN_lit w3 #[.int .u32 1] 142 [1] rfl (FB.W.one (by decide)),fun h=>by simp,by simp[FB.val]⟩;clear hDp FIN HR LD LP LM L1;go_wp2_with fail
     refine(CPW.o _).mono ?_;rintro x w4 ⟨v4,rfl,h1,h2⟩;have N4:=hd h1;have NL4:=hd (NL.o.below h2);have B34:=hd (bel HBA.o h2);clear h1 h2;go_wp2_with fail
     refine(CM.o _ v4 N4.o (NV3.o.below B34.o)).mono ?_;rintro x w4b ⟨v5,rfl,h1,h2⟩;have N5:=hd h1;have NL5:=hd (NL4.o.below h2);have B35:=hd (bel B34.o h2);clear h1 h2;go_wp2_with fail
     refine(CN.o _ v5 _ N5.o NL5.o).mono ?_;rintro x w5 ⟨⟨b,rfl,hR⟩,h2⟩;have B5:=hd (bel B3.o (bel B35.o h2));obtain⟨o1,o2⟩:=HPV.o b hR;have HO:=hd o1;clear h2 hR o1 HPV;have hI:FS.INF=9218868437227405312:=rfl;by_cases hb:b=FS.INF
     ·have HOK:Hd (RdOk s (rdTup 0 21)):=hd (by have:=HO.o;rwa[rdAns_inf hb]at this)
      have tb:((9218868437227405312:Int)≤(b:Int))=True:=eq_true (by omega);clear hb o2 hI;go_wp2;go_ret2;exact⟨⟨_,HOK.o,rfl⟩,B5.o⟩
     ·have HOK:Hd (RdOk s (rdTup b 0)):=hd (by have:=HO.o;rwa[rdAns_fin hb]at this)
      have tb:((9218868437227405312:Int)≤(b:Int))=False:=eq_false (by omega);have qb:∀W,(callFunc 128 #[.int .u64 b]).run prog W=.ok (.value (.float .f64 b)) W:=fun W=>mfrom_run b W
      clear hb o2 hI;go_wp2;go_ret2;exact⟨⟨_,HOK.o,rfl⟩,B5.o⟩
   ·have HOK:Hd (RdOk s (rdTup 0 20)):=hd (.inr (.inr (.inr (.inl ⟨hs5,HN1.o,HN2.o,.inr hp,rfl⟩))))
    have tp:(((PN.pfx s.data.toList:Nat):Int)!=(s.size:Int))=true:=(by rw[bne_iff_ne];omega);generalize PN.pfx s.data.toList=z at *;clear hp;go_wp2_with (go_at_call 93;(with_reducible refine(CP.o _).mono ?_);rintro e w' ⟨rfl,rfl⟩)
    go_ret2;exact⟨⟨_,HOK.o,rfl⟩,B2.o⟩
end Go.Proofs.YtieknenhfeejiaaGreatDoor
