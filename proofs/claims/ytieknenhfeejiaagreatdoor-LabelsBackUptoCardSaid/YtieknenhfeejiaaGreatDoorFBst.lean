/- Unrounded scaling: what the library's uscale answers is the scaled number, cu .. -/
import Derived.Test.YtieknenhfeejiaaGreatDoorBase3
set_option maxRecDepth 100000
set_option linter.unusedVariables false
set_option linter.unusedSimpArgs false
namespace Go.Proofs.YtieknenhfeejiaaGreatDoor
namespace FS
def lp (p:Int):Int:=p*108853/32768
def A (p:Int):Nat:=10^p.toNat * 2^(127-lp p).toNat
def D (p:Int):Nat:=10^(-p).toNat * 2^(lp p-127).toNat
theorem D_pos (p:Int):0<D p:=Nat.mul_pos (Nat.pow_pos (by decide)) (Nat.pow_pos (by decide))
structure Row (a d hi lo:Nat):Prop where
 d0:0<d
 hh:hi<2^64
 hl:lo<2^64
 up:d*hi*2^64<a+d*lo+d
 dn:a+d*lo≤d*hi*2^64
def cut (x hi lo s:Nat):Nat:=
 if x*hi/2^64%2^s≠0 then x*hi/2^64/2^s |||1
 else(if x*hi%2^64<x*lo/2^64 then x*hi/2^64-1 else x*hi/2^64)/2^s |||(if 1<(x*hi%2^64+2^64-x*lo/2^64)%2^64 then 1 else 0)
def unr (n d:Nat):Nat:=n/d |||(if n%d=0 then 0 else 1)
def Far (y k w:Nat):Prop:=∀n:Nat,y=n*k∨n*k+w<y∨y+2*w≤n*k
theorem div_of {y k q:Nat}(h1:q*k≤y)(h2:y<(q+1)*k):y/k=q:=
 Nat.div_eq_of_lt_le h1 h2
theorem mod_ne {y k q:Nat}(h1:q*k<y)(h2:y<(q+1)*k):y%k≠0:=by
 intro h;have e:=Nat.div_add_mod y k;rw[h,div_of (Nat.le_of_lt h1) h2,Nat.mul_comm]at e;omega
theorem lo1 (y EQ E dM dm dl dx D:Nat)(y2:(EQ+E)*340282366920938463463374607431768211456+dM*18446744073709551616≤y+(dm*18446744073709551616+dl)+dx)
  (b2:dl+D≤D*18446744073709551616)(b3:dx+D≤D*18446744073709551616)(b4:dm+2*D≤D*18446744073709551616)(hE:D≤E)(d0:0<D):EQ*340282366920938463463374607431768211456<y:=by omega
theorem lo2 (y EQ dM dm dl dx D:Nat)(y2:EQ*340282366920938463463374607431768211456+dM*18446744073709551616≤y+(dm*18446744073709551616+dl)+dx)
  (b2:dl+D≤D*18446744073709551616)(b3:dx+D≤D*18446744073709551616)(b4:dm+2*D≤dM)(d0:0<D):EQ*340282366920938463463374607431768211456<y:=by omega
theorem cut_eq {a d hi lo x s:Nat}(R:Row a d hi lo)(hx:x<2^64)(hf:Far (x*a) (d*2^(128+s)) (d*2^64)):cut x hi lo s=unr (x*a) (d*2^(128+s)):=by
 obtain⟨d0,h,l,ra,rb⟩:=R;obtain⟨H,eH⟩:∃H,H=x*hi/2^64:=⟨_,rfl⟩
 obtain⟨M,eM⟩:∃M,M=x*hi%2^64:=⟨_,rfl⟩
 obtain⟨m,em⟩:∃m,m=x*lo/2^64:=⟨_,rfl⟩
 obtain⟨l2,el⟩:∃l2,l2=x*lo%2^64:=⟨_,rfl⟩
 have e1:x*hi=2^64*H+M:=(by rw[eH,eM];exact(Nat.div_add_mod _ _).symm);have e2:x*lo=2^64*m+l2:=(by rw[em,el];exact(Nat.div_add_mod _ _).symm);have hM:M<2^64:=(by rw[eM];exact Nat.mod_lt _ (by decide));have hl2:l2<2^64:=(by rw[el];exact Nat.mod_lt _ (by decide));have hm:m≤2^64-2:=by
  have h1:x*lo≤(2^64-1)*(2^64-1):=Nat.mul_le_mul (by omega) (by omega);have h2:m≤(2^64-1)*(2^64-1)/2^64:=(by rw[em];exact Nat.div_le_div_right h1);exact Nat.le_trans h2 (by decide)
 -- times d
 have y1:x*a+(d*m*2^64+d*l2)≤d*H*2^128+d*M*2^64:=by
  have h1:x*(a+d*lo)≤x*(d*hi*2^64):=Nat.mul_le_mul_left _ rb;have h2:x*(a+d*lo)=x*a+d*(x*lo):=(by rw[Nat.mul_add,Nat.mul_left_comm]);have h3:x*(d*hi*2^64)=d*(x*hi)*2^64:=(by rw[←Nat.mul_assoc,Nat.mul_left_comm x d hi]);rw[h2,h3,e1,e2]at h1;have h4:d*(2^64*m+l2)=d*m*2^64+d*l2:=(by rw[Nat.mul_add,Nat.mul_left_comm,Nat.mul_comm (2^64)]);have h5:d*(2^64*H+M)*2^64=d*H*2^128+d*M*2^64:=by
   rw[Nat.mul_add,Nat.add_mul,Nat.mul_left_comm,Nat.mul_comm (2^64),Nat.mul_assoc (d*H)]
  rw[h4,h5]at h1;exact h1
 have y2:d*H*2^128+d*M*2^64≤x*a+(d*m*2^64+d*l2)+d*x:=by
  have h1:x*(d*hi*2^64)≤x*(a+d*lo+d):=Nat.mul_le_mul_left _ (Nat.le_of_lt ra);have h2:x*(a+d*lo+d)=x*a+d*(x*lo)+d*x:=(by rw[Nat.mul_add,Nat.mul_add,Nat.mul_left_comm,Nat.mul_comm x d]);have h3:x*(d*hi*2^64)=d*(x*hi)*2^64:=(by rw[←Nat.mul_assoc,Nat.mul_left_comm x d hi]);rw[h2,h3,e1,e2]at h1;have h4:d*(2^64*m+l2)=d*m*2^64+d*l2:=(by rw[Nat.mul_add,Nat.mul_left_comm,Nat.mul_comm (2^64)]);have h5:d*(2^64*H+M)*2^64=d*H*2^128+d*M*2^64:=by
   rw[Nat.mul_add,Nat.add_mul,Nat.mul_left_comm,Nat.mul_comm (2^64),Nat.mul_assoc (d*H)]
  rw[h4,h5]at h1;exact h1
 have b1:d*M+d≤d*2^64:=(by rw[←Nat.mul_succ];exact Nat.mul_le_mul_left _ hM);have b2:d*l2+d≤d*2^64:=(by rw[←Nat.mul_succ];exact Nat.mul_le_mul_left _ hl2);have b3:d*x+d≤d*2^64:=(by rw[←Nat.mul_succ];exact Nat.mul_le_mul_left _ hx);have b4:d*m+2*d≤d*2^64:=by
  have:d*(m+2)≤d*2^64:=Nat.mul_le_mul_left _ (by omega);rw[Nat.mul_add,Nat.mul_comm d 2]at this;exact this
 have ek:∀q,q*(d*2^(128+s))=d*2^s*q*2^128:=fun q=>by
  rw[Nat.pow_add,Nat.mul_comm (2^128),←Nat.mul_assoc d,←Nat.mul_assoc q,Nat.mul_comm q]
 have ek1:∀q,(q+1)*(d*2^(128+s))=d*2^s*q*2^128+d*2^s*2^128:=fun q=>by
  rw[ek,Nat.mul_add,Nat.add_mul,Nat.mul_one]
 have hE:d≤d*2^s:=Nat.le_mul_of_pos_right _ (Nat.pow_pos (by decide));have eHs:=Nat.div_add_mod H (2^s);have hms:H%2^s<2^s:=Nat.mod_lt _ (Nat.pow_pos (by decide));obtain⟨Q,eQ⟩:∃Q,Q=H/2^s:=⟨_,rfl⟩
 obtain⟨h0,eh0⟩:∃h0,h0=H%2^s:=⟨_,rfl⟩
 rw[←eQ,←eh0]at eHs;rw[←eh0]at hms;have dH:d*H=d*2^s*Q+d*h0:=(by rw[←eHs,Nat.mul_add,Nat.mul_assoc]);have b5:d*h0+d≤d*2^s:=(by rw[←Nat.mul_succ];exact Nat.mul_le_mul_left _ hms);unfold cut unr;rw[←eH,←eM,←em];simp only[Nat.reducePow]at *;by_cases c0:h0=0
 ·rw[if_neg (by rw[←eh0];simpa using c0)]
  subst c0;rw[Nat.mul_zero,Nat.add_zero]at dH;rw[Nat.add_zero]at eHs;by_cases c1:M<m
  ·have q1:d*M+d≤d*m:=by rw[←Nat.mul_succ];exact Nat.mul_le_mul_left _ c1
   have hQ:1≤Q:=by
    rcases Nat.eq_zero_or_pos Q with h|h
    ·rw[h,Nat.mul_zero]at dH
     rw[dH]at y1;omega
    ·exact h
   obtain⟨q,rfl⟩:∃q,Q=q+1:=⟨Q-1,by omega⟩
   have eq1:d*2^s*(q+1)=d*2^s*q+d*2^s:=(by rw[Nat.mul_add,Nat.mul_one]);rw[dH,eq1]at y1 y2;have k1:q*(d*2^(128+s))<x*a:=(by rw[ek];exact lo1 _ _ _ _ _ _ _ _ y2 b2 b3 b4 hE d0);have k2:x*a<(q+1)*(d*2^(128+s)):=(by rw[ek1];omega);rw[div_of (Nat.le_of_lt k1) k2,if_neg (mod_ne k1 k2),if_pos c1,if_pos (by omega)];have:(H-1)/2^s=q:=by
    have hp:0<2^s:=Nat.pow_pos (by decide);have e8:(q+1)*2^s=H:=(by rw[Nat.mul_comm];exact eHs);have e9:(q+1)*2^s=q*2^s+2^s:=(by rw[Nat.add_mul,Nat.one_mul]);apply div_of
    ·omega
    ·omega
   rw[this]
  ·rw[if_neg c1]
   have eqm:(M+18446744073709551616-m)%18446744073709551616=M-m:=(by omega);rw[eqm,←eQ];rw[dH]at y1 y2;by_cases c2:1<M-m
   ·have q1:d*m+2*d≤d*M:=by
     have:d*(m+2)≤d*M:=Nat.mul_le_mul_left _ (by omega);rw[Nat.mul_add,Nat.mul_comm d 2]at this;exact this
    have k1:Q*(d*2^(128+s))<x*a:=(by rw[ek];exact lo2 _ _ _ _ _ _ _ y2 b2 b3 q1 d0);have k2:x*a<(Q+1)*(d*2^(128+s)):=(by rw[ek1];omega);rw[div_of (Nat.le_of_lt k1) k2,if_neg (mod_ne k1 k2),if_pos c2]
   ·have q1:d*M≤d*m+d:=by
     have:d*M≤d*(m+1):=Nat.mul_le_mul_left _ (by omega);rw[Nat.mul_add,Nat.mul_one]at this;exact this
    have q2:d*m≤d*M:=Nat.mul_le_mul_left _ (by omega);have hxa:x*a=Q*(d*2^(128+s)):=by
     have e:=ek Q;rcases hf Q with h|h|h
     ·exact h
     ·rw[e]at h;omega
     ·rw[e]at h;omega
    have hk0:0<d*2^(128+s):=Nat.mul_pos d0 (Nat.pow_pos (by decide));rw[hxa,Nat.mul_div_cancel _ hk0,if_pos (Nat.mul_mod_left _ _),if_neg c2]
 ·rw[if_pos (by rw[←eh0];exact c0)]
  have b6:d≤d*h0:=Nat.le_mul_of_pos_right _ (Nat.pos_of_ne_zero c0);rw[dH]at y1 y2;have k1:Q*(d*2^(128+s))<x*a:=(by rw[ek];exact lo1 _ _ _ _ _ _ _ _ y2 b2 b3 b4 b6 d0);have k2:x*a<(Q+1)*(d*2^(128+s)):=(by rw[ek1];omega);rw[div_of (Nat.le_of_lt k1) k2,if_neg (mod_ne k1 k2),←eQ]
theorem about {a b c d num den z n:Int}(det:b*c=a*d+1)(hb:1≤b)(hd:1≤d)(hz:0<z)(hX:z<b+d) :
  z=(z*c-n*d)*b+(n*b-z*a)*d∧z*num-n*den=(z*c-n*d)*(b*num-a*den)-(n*b-z*a)*(c*den-d*num)∧
  ((1≤z*c-n*d∧n*b-z*a≤0)∨(z*c-n*d≤0∧1≤n*b-z*a)):=by
 have e1:z=(z*c-n*d)*b+(n*b-z*a)*d:=by
  have:(z*c-n*d)*b+(n*b-z*a)*d=z*(b*c-a*d):=(by grind);rw[this,det];omega
 refine⟨e1,?_,?_⟩
 ·have h2:(z*c-n*d)*(b*num-a*den)-(n*b-z*a)*(c*den-d*num)=(z*num-n*den)*(b*c-a*d):=by grind
  rw[h2,det];omega
 ·generalize z*c-n*d=u at *
  generalize n*b-z*a=v at *;by_cases hu:1≤u
  ·by_cases hv:v≤0
   ·exact .inl ⟨hu,hv⟩
   ·have h1:b≤u*b:=by have:=Int.mul_le_mul_of_nonneg_right hu (show (0:Int)≤b by omega);omega
    have h2:d≤v*d:=(by have:=Int.mul_le_mul_of_nonneg_right (show (1:Int)≤v by omega) (show (0:Int)≤d by omega);omega);omega
  ·by_cases hv:1≤v
   ·exact .inr ⟨by omega,hv⟩
   ·have h1:u*b≤0:=Int.mul_nonpos_of_nonpos_of_nonneg (by omega) (by omega)
    have h2:v*d≤0:=Int.mul_nonpos_of_nonpos_of_nonneg (by omega) (by omega);omega
def go:Nat→Nat→Nat→Nat→Nat→Nat→Nat→Nat→Nat×Nat×Nat×Nat
 |0,p0,q0,p1,q1,_,_,_=>(p1,q1,p0,q0)
 |f+1,p0,q0,p1,q1,r0,r1,X=>
  if r1=0∨X≤r0/r1*q1+q0 then(p1,q1,p0+(X-q0)/q1*p1,q0+(X-q0)/q1*q1)
  else go f p1 q1 (r0/r1*p1+p0) (r0/r1*q1+q0) r1 (r0%r1) X
def okc2 (num den X Xm W a b c d:Nat):Bool:=
 decide (a*den≤b*num) && (decide (d*num≤c*den) && (decide (b*c=a*d+1) && (decide (1≤b) && (decide (1≤d) && (decide (X≤b+d) &&
 ((decide (b*num=a*den) ||(decide (X≤b) ||decide (W<(b*num-a*den)*((Xm+b-1)/b)))) && (decide (W<(b*num-a*den)+(c*den-d*num)) &&
 ((decide (c*den=d*num) ||(decide (X≤d) ||decide (2*W≤(c*den-d*num)*((Xm+d-1)/d)))) && decide (2*W≤(b*num-a*den)+(c*den-d*num))))))))))
def okc (num den X Xm W:Nat):Bool:=
 match go 200 0 1 1 0 num den X with
 |(p1,q1,p0,q0)=>okc2 num den X Xm W p1 q1 p0 q0 ||okc2 num den X Xm W p0 q0 p1 q1
theorem ceil_le {X b u:Nat}(hb:1≤b)(h:X≤u*b):(X+b-1)/b≤u:=by
 rw[Nat.div_le_iff_le_mul_add_pred (by omega),Nat.mul_comm];omega
theorem far_of2 {num den X Xm W a b c d:Nat}(h:okc2 num den X Xm W a b c d=true){z:Nat}(hz:0<z)(h1:Xm≤z)(h2:z<X):Far (z*num) den W:=by
 unfold okc2 at h;simp only[Bool.and_eq_true,Bool.or_eq_true,decide_eq_true_eq]at h;obtain⟨ha,hc,hdet,hb,hd,hX,hA,hAB,hB,hBA⟩:=h;intro n;obtain⟨e1,e2,e3⟩:=about (a:=a) (b:=b) (c:=c) (d:=d) (num:=num) (den:=den) (z:=z) (n:=n) (by exact_mod_cast hdet) (by exact_mod_cast hb) (by exact_mod_cast hd) (by exact_mod_cast hz) (by omega);obtain⟨ea,hea⟩:∃ea,ea=b*num-a*den:=⟨_,rfl⟩
 obtain⟨ed,hed⟩:∃ed,ed=c*den-d*num:=⟨_,rfl⟩
 have ca:((b:Int)*num-a*den)=(ea:Int):=(by rw[hea];rw[Int.ofNat_sub ha];simp);have cd:((c:Int)*den-d*num)=(ed:Int):=(by rw[hed];rw[Int.ofNat_sub hc];simp);rw[ca,cd]at e2;rw[←hea,←hed]at hAB hBA;rw[←hea]at hA;rw[←hed]at hB;generalize (z:Int)*c-n*d=u at *;generalize (n:Int)*b-z*a=v at *;rcases e3 with ⟨hu,hv⟩|⟨hu,hv⟩
 ·obtain⟨u',rfl⟩:∃u':Nat,u=u':=⟨u.toNat,by omega⟩
  obtain⟨v',rfl⟩:∃v':Nat,v = -(v':Int):=⟨(-v).toNat,by omega⟩
  have e4:(z*num:Nat)=n*den+(u'*ea+v'*ed):=by
   have:((z*num:Nat):Int)=((n*den+(u'*ea+v'*ed):Nat):Int):=by push_cast;rw[Int.neg_mul]at e2;omega
   exact_mod_cast this
  by_cases hv0:v'=0
  ·subst hv0
   have e5:z=u'*b:=by have:(z:Int)=((u'*b:Nat):Int):=by push_cast;simpa using e1
                      exact_mod_cast this
   rcases hA with h|h|h
   ·left;rw[e4,hea,h];simp
   ·have:b≤u'*b:=Nat.le_mul_of_pos_left _ (by omega)
    omega
   ·right;left
    have h6:ea*((Xm+b-1)/b)≤ea*u':=Nat.mul_le_mul_left _ (ceil_le hb (by omega));rw[e4,Nat.mul_comm u'];omega
  ·right;left
   have h6:ea≤u'*ea:=Nat.le_mul_of_pos_left _ (by omega);have h7:ed≤v'*ed:=Nat.le_mul_of_pos_left _ (by omega);omega
 ·obtain⟨u',rfl⟩:∃u':Nat,u = -(u':Int):=⟨(-u).toNat,by omega⟩
  obtain⟨v',rfl⟩:∃v':Nat,v=v':=⟨v.toNat,by omega⟩
  have e4:(n*den:Nat)=z*num+(u'*ea+v'*ed):=by
   have:((n*den:Nat):Int)=((z*num+(u'*ea+v'*ed):Nat):Int):=by push_cast;rw[Int.neg_mul]at e2;omega
   exact_mod_cast this
  by_cases hu0:u'=0
  ·subst hu0
   have e5:z=v'*d:=by have:(z:Int)=((v'*d:Nat):Int):=by push_cast;simpa using e1
                      exact_mod_cast this
   rcases hB with h|h|h
   ·left;rw[e4,hed,h];simp
   ·have:d≤v'*d:=Nat.le_mul_of_pos_left _ (by omega)
    omega
   ·right;right
    have h6:ed*((Xm+d-1)/d)≤ed*v':=Nat.mul_le_mul_left _ (ceil_le hd (by omega));rw[e4,Nat.mul_comm v'];omega
  ·right;right
   have h6:ea≤u'*ea:=Nat.le_mul_of_pos_left _ (by omega);have h7:ed≤v'*ed:=Nat.le_mul_of_pos_left _ (by omega);omega
theorem far_of {num den X Xm W:Nat}(h:okc num den X Xm W=true){z:Nat}(hz:0<z)(h1:Xm≤z)(h2:z<X):Far (z*num) den W:=by
 unfold okc at h;split at h
 rw[Bool.or_eq_true]at h;rcases h with h|h
 ·exact far_of2 h hz h1 h2
 ·exact far_of2 h hz h1 h2
def okP (p:Int):Bool:=okc (2^9*A p) (D p*2^133) (2^55) 1 (D p*2^64)
def okR (p:Int):Bool:=okc (A p) (D p*2^136) (2^64) (2^62) (D p*2^64)
theorem allP:((List.range 696).all fun i:Nat=>okP ((i:Int)-348))=true:=by decide +kernel
theorem allR:((List.range 696).all fun i:Nat=>okR ((i:Int)-348))=true:=by decide +kernel
end FS
namespace FS
def dist (a b:Nat):Nat:=(a-b)+(b-a)
def Z (k:Nat):Nat:=2^k
theorem Z_pos (k:Nat):0<Z k:=Nat.two_pow_pos k
def X (k:Nat):Nat:=10^k
theorem X_pos (k:Nat):0<X k:=Nat.pow_pos (by decide)
def T (t:Nat):Nat:=X t*Z 1140
end FS
namespace FS
structure Rd (L U V t d n D u o:Nat):Prop where
 le:d*T t≤V
 lt:V<(d+1)*T t
 dn:(V-d*T t)*D=n*T t
 rs:((d+1)*T t-V)*D=(D-n)*T t
 eL:(V-L)*D=u*T t
 eU:(U-V)*D=o*T t
end FS
namespace FS
def pmv (p:Int):Nat:=(A p+D p-1)/D p
def hiOf (p:Int):Nat:=(pmv p+18446744073709551615)/18446744073709551616
def loOf (p:Int):Nat:=hiOf p*18446744073709551616-pmv p
theorem allH:((List.range 696).all fun i:Nat=>decide (hiOf ((i:Int)-348)<18446744073709551616))=true:=by decide +kernel
theorem hi_lt {p:Int}(h1 : -348≤p)(h2:p≤347):hiOf p<2^64:=by
 have h:=List.all_eq_true.1 allH (p+348).toNat (List.mem_range.2 (by omega));rw[decide_eq_true_eq,show (((p+348).toNat:Nat):Int)-348=p by omega]at h;exact h
theorem rowOf {p:Int}(h1 : -348≤p)(h2:p≤347):Row (A p) (D p) (hiOf p) (loOf p):=by
 have d0:=D_pos p;have e0:D p*pmv p≤A p+D p-1:=Nat.mul_div_le _ _;have e1:A p+D p-1<D p*(pmv p+1):=Nat.lt_mul_div_succ _ d0;have l1:pmv p≤hiOf p*18446744073709551616:=(by unfold hiOf;omega);have l2:loOf p<18446744073709551616:=(by unfold loOf hiOf;omega);have l3:D p*hiOf p*18446744073709551616=D p*pmv p+D p*loOf p:=by
  rw[Nat.mul_assoc,←Nat.mul_add];congr 1;unfold loOf;omega
 rw[Nat.mul_add,Nat.mul_one]at e1;refine⟨d0,hi_lt h1 h2,l2,?_,?_⟩
 ·show D p*hiOf p*18446744073709551616<_;omega
 ·show _≤D p*hiOf p*18446744073709551616;omega
theorem far_up {y d w s k:Nat}(h:Far y (d*2^(128+k)) w)(hs:k≤s):Far y (d*2^(128+s)) w:=fun n=>by
 obtain⟨j,rfl⟩:=Nat.le.dest hs;have e:n*(d*2^(128+(k+j)))=n*2^j*(d*2^(128+k)):=by
  rw[←Nat.add_assoc,Nat.pow_add 2 (128+k) j,←Nat.mul_assoc d,Nat.mul_comm _ (2^j),←Nat.mul_assoc]
 rw[e];exact h _
theorem cutP {p:Int}(h1 : -348≤p)(h2:p≤347){z s:Nat}(hz:0<z)(hz2:z<2^55)(hs:5≤s):cut (2^9*z) (hiOf p) (loOf p) s=unr (2^9*z*A p) (D p*2^(128+s)):=by
 have h:=List.all_eq_true.1 allP (p+348).toNat (List.mem_range.2 (by omega));rw[show (((p+348).toNat:Nat):Int)-348=p by omega]at h;refine cut_eq (rowOf h1 h2) (by omega) (far_up (k:=5) ?_ hs);have:=far_of h hz hz hz2;rw[show 2^9*z*A p=z*(2^9*A p) by rw[Nat.mul_comm (2^9) z,Nat.mul_assoc]];exact this
theorem cutR {p:Int}(h1 : -348≤p)(h2:p≤347){x s:Nat}(hx:2^62≤x)(hx2:x<2^64)(hs:8≤s):cut x (hiOf p) (loOf p) s=unr (x*A p) (D p*2^(128+s)):=by
 have h:=List.all_eq_true.1 allR (p+348).toNat (List.mem_range.2 (by omega));rw[show (((p+348).toNat:Nat):Int)-348=p by omega]at h;exact cut_eq (rowOf h1 h2) hx2 (far_up (k:=8) (far_of h (by omega) hx hx2) hs)
def Q4 (u s t:Nat):Prop:=(u%2=0→4*s=u*t)∧(u%2=1→(u-1)*t<4*s∧4*s<(u+1)*t)
theorem or_one (q:Nat):q |||1=if q%2=0 then q+1 else q:=by
 apply Nat.eq_of_testBit_eq;intro i;rw[Nat.testBit_or];split
 ·rename_i h
  cases i with
  |zero=>simp[Nat.testBit_zero];omega
  |succ i=>
   rw[Nat.testBit_succ,Nat.testBit_succ,Nat.testBit_succ];simp[show (q+1)/2=q/2 by omega]
 ·rename_i h
  cases i with
  |zero=>simp[Nat.testBit_zero];omega
  |succ i=>rw[Nat.testBit_succ,Nat.testBit_succ];simp
theorem unr_eq (n d:Nat):unr n d=if n%d=0 then n/d else if n/d%2=0 then n/d+1 else n/d:=by
 unfold unr;split
 ·simp
 ·rw[or_one]
theorem q4_of {n d s t:Nat}(hd:0<d)(ht:0<t)(h:s*(4*d)=n*t):Q4 (unr n d) s t:=by
 have e:=Nat.div_add_mod n d;have hm:=Nat.mod_lt n hd;have sc:∀a,a*d=n→4*s=a*t:=fun a ha=>by
  apply Nat.eq_of_mul_eq_mul_right hd;rw[←ha]at h;rw[Nat.mul_right_comm a,←h,Nat.mul_comm 4 s,Nat.mul_assoc]
 have sl:∀a,a*d<n→a*t<4*s:=fun a ha=>by
  apply Nat.lt_of_mul_lt_mul_right (a:=d);have h1:a*d*t<n*t:=Nat.mul_lt_mul_of_pos_right ha ht;rw[←h]at h1;rw[Nat.mul_right_comm a,Nat.mul_comm 4 s,Nat.mul_assoc s];exact h1
 have sg:∀a,n<a*d→4*s<a*t:=fun a ha=>by
  apply Nat.lt_of_mul_lt_mul_right (a:=d);have h1:n*t<a*d*t:=Nat.mul_lt_mul_of_pos_right ha ht;rw[←h]at h1;rw[Nat.mul_right_comm a,Nat.mul_comm 4 s,Nat.mul_assoc s];exact h1
 have c1:n<(n/d+1)*d:=(by rw[Nat.add_mul,Nat.one_mul,Nat.mul_comm];omega);have mono:∀a b,a≤b→a*d≤b*d:=fun a b hab=>Nat.mul_le_mul_right _ hab
 have c0:n/d*d≤n:=Nat.div_mul_le_self _ _;rw[unr_eq];unfold Q4;generalize n/d=q at *;by_cases c:n%d=0
 ·rw[if_pos c]
  have e2:q*d=n:=(by rw[Nat.mul_comm];omega);refine⟨fun _=>sc _ e2,fun ho=>⟨sl _ ?_,sg _ c1⟩⟩;have:(q-1+1)*d=n:=(by rw[show q-1+1=q by omega];exact e2);rw[Nat.add_mul]at this;omega
 ·rw[if_neg c]
  have c2:q*d<n:=(by rw[Nat.mul_comm];omega);split
  ·rename_i h2
   refine⟨fun h=>by omega,fun _=>⟨sl _ ?_,sg _ ?_⟩⟩
   ·simpa using c2
   ·exact Nat.lt_of_lt_of_le c1 (mono (q+1) (q+1+1) (by omega))
  ·rename_i h2
   refine⟨fun h=>by omega,fun _=>⟨sl _ ?_,sg _ c1⟩⟩;exact Nat.lt_of_le_of_lt (mono (q-1) q (by omega)) c2
end FS
namespace FS
theorem X_mul (a b:Nat):X a*X b=X (a+b):=(Nat.pow_add 10 a b).symm
theorem Z_mul (a b:Nat):Z a*Z b=Z (a+b):=(Nat.pow_add 2 a b).symm
end FS
end Go.Proofs.YtieknenhfeejiaaGreatDoor
