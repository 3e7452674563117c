/- Rounding to the nearest float, the even one of two, in plain numbers: one flo .. -/
import Derived.Test.YtieknenhfeejiaaGreatDoorFTold
import Ieee.Arith
import Derived.Laws.FloatArith
set_option linter.unusedVariables false
set_option linter.unusedSimpArgs false
namespace Go.Proofs.YtieknenhfeejiaaGreatDoor
namespace FS
def INF:Nat:=9218868437227405312
def hf (b:Nat):Nat:=(2*mOf b+1)*Z (eOf b+1074).toNat
structure Rnd (n d b:Nat):Prop where
 le:b≤INF
 lo:b=0∨hf (b-1)*d<n*Z 1075∨(hf (b-1)*d=n*Z 1075∧b%2=0)
 hi:b=INF∨n*Z 1075<hf b*d∨(n*Z 1075=hf b*d∧b%2=0)
theorem Z_succ (k:Nat):Z (k+1)=2*Z k:=by unfold Z;rw[Nat.pow_succ,Nat.mul_comm]
theorem hf_at {K k b:Nat}(hb:b=K*4503599627370496+k)(hk:k<9007199254740992)(h:K=0∨4503599627370496≤k)(hK:K<2046):hf b=(2*k+1)*Z K:=by
 have key:mOf b=k∧(eOf b+1074).toNat=K:=by
  unfold mOf eOf ex mt;by_cases c:k<4503599627370496
  ·have:K=0:=by omega
   subst this;have e1:b/4503599627370496%2048=0:=(by omega);rw[if_pos e1,if_pos e1]
   constructor
   ·omega
   ·omega
  ·have e1:b/4503599627370496%2048=K+1:=by omega
   rw[e1,if_neg (by omega),if_neg (by omega)]
   constructor
   ·omega
   ·omega
 unfold hf;rw[key.1,key.2]
theorem hf_low {r:Nat}(h:r<4503599627370496):hf r=2*r+1:=by
 rw[hf_at (K:=0) (k:=r) (by omega) (by omega) (.inl rfl) (by decide)];unfold Z;omega
theorem hf_high {K r:Nat}(h:r<4503599627370496)(hK:K<2046):hf ((K+1)*4503599627370496+r)=(9007199254740993+2*r)*Z K:=by
 rw[hf_at (K:=K) (k:=4503599627370496+r) (by omega) (by omega) (.inr (by omega)) hK];congr 1;omega
theorem split52 (b:Nat)(hb:b<INF):(b<4503599627370496)∨∃K r,b=(K+1)*4503599627370496+r∧r<4503599627370496∧K<2046:=by
 unfold INF at hb;by_cases c:b<4503599627370496
 ·exact .inl c
 ·exact .inr ⟨b/4503599627370496-1,b%4503599627370496,by omega,Nat.mod_lt _ (by decide),by omega⟩
theorem hf_succ {b:Nat}(hb:b+1<INF):hf b<hf (b+1):=by
 rcases split52 b (by omega) with c|⟨K,r,rfl,hr,hK⟩
 ·by_cases c2:b+1<4503599627370496
  ·rw[hf_low c,hf_low c2];omega
  ·have e:b+1=(0+1)*4503599627370496+0:=by omega
   rw[hf_low c,e,hf_high (by decide) (by decide)];unfold Z;omega
 ·have hz:=Z_pos K
  by_cases c2:r+1<4503599627370496
  ·rw[hf_high hr hK,Nat.add_assoc,hf_high c2 hK]
   exact Nat.mul_lt_mul_of_pos_right (by omega) hz
  ·have e:(K+1)*4503599627370496+r+1=(K+1+1)*4503599627370496+0:=by omega
   have hK2:K+1<2046:=(by unfold INF at hb;omega);rw[hf_high hr hK,e,hf_high (by decide) hK2,Z_succ,←Nat.mul_assoc];exact Nat.mul_lt_mul_of_pos_right (by omega) hz
theorem hf_mono:∀ {b c:Nat},b≤c→c<INF→hf b≤hf c:=by
 intro b c h;induction h with
 |refl=>intro _;exact Nat.le_refl _
 |step h ih=>intro hc;exact Nat.le_trans (ih (by omega)) (Nat.le_of_lt (hf_succ hc))
theorem hf_lt {b c:Nat}(h:b<c)(hc:c<INF):hf b<hf c:=by
 rcases Nat.lt_or_ge (b+1) c with q|q
 ·exact Nat.lt_of_lt_of_le (hf_succ (by omega)) (hf_mono (Nat.le_of_lt q) hc)
 ·have:c=b+1:=by omega
  subst this;exact hf_succ hc
theorem Rnd.not_lt {n d b c:Nat}(hd:0<d)(h:Rnd n d b)(k:Rnd n d c):¬ b<c:=fun hbc=>by
 have hcI:=k.le;have h1:b≠INF:=(by omega);have h2:c≠0:=(by omega);have hh:hf b≤hf (c-1):=hf_mono (by omega) (by omega);have hm:hf b*d≤hf (c-1)*d:=Nat.mul_le_mul_right _ hh;have a:=h.hi.resolve_left h1;have e:=k.lo.resolve_left h2;have heq:hf b*d=hf (c-1)*d:=(by omega);have hev:b%2=0∧c%2=0:=(by omega);rcases Nat.lt_or_ge b (c-1) with q|q
 ·have:=Nat.mul_lt_mul_of_pos_right (hf_lt q (by omega)) hd
  omega
 ·omega
theorem Rnd.ext {n d b c:Nat}(hd:0<d)(h:Rnd n d b)(k:Rnd n d c):b=c:=by
 have:=h.not_lt hd k;have:=k.not_lt hd h;omega
theorem Rnd.of_eq {n d n' d' b:Nat}(hd:0<d)(hd':0<d')(e:n*d'=n'*d)(h:Rnd n d b):Rnd n' d' b:=by
 have key:∀x,(x*d<n*Z 1075↔x*d'<n'*Z 1075)∧(x*d=n*Z 1075↔x*d'=n'*Z 1075)∧(n*Z 1075<x*d↔n'*Z 1075<x*d'):=fun x=>by
  have a:∀y,y*d*d'=y*d'*d:=fun y=>Nat.mul_right_comm _ _ _
  have e2:n*Z 1075*d'=n'*Z 1075*d:=(by rw[Nat.mul_right_comm,e,Nat.mul_right_comm]);refine⟨?_,?_,?_⟩
  ·rw[←Nat.mul_lt_mul_right hd',a,e2,Nat.mul_lt_mul_right hd]
  ·rw[←Nat.mul_left_inj (Nat.pos_iff_ne_zero.1 hd'),a,e2,Nat.mul_left_inj (Nat.pos_iff_ne_zero.1 hd)]
  ·rw[←Nat.mul_lt_mul_right hd',a,e2,Nat.mul_lt_mul_right hd]
 refine⟨h.le,?_,?_⟩
 ·rw[←(key _).1,←(key _).2.1];exact h.lo
 ·rw[←(key _).2.2,eq_comm (a:=n'*Z 1075),←(key _).2.1,eq_comm (b:=n*Z 1075)];exact h.hi
theorem rnd_of {n d K k:Nat}(hd:0<d)(hk:k≤9007199254740992)(h1:K=0∨9007199254740992*Z K*d≤n*Z 1075)(h2:n*Z 1075<18014398509481984*Z K*d)
  (lo:k=0∨(2*k-1)*Z K*d<n*Z 1075∨((2*k-1)*Z K*d=n*Z 1075∧k%2=0))(hi:n*Z 1075<(2*k+1)*Z K*d∨(n*Z 1075=(2*k+1)*Z K*d∧k%2=0)) :
  Rnd n d (min (K*4503599627370496+k) INF):=by
 have hz:=Z_pos K;generalize hx:n*Z 1075=x at *;have cancel:∀a c:Nat,a*Z K*d<c*Z K*d→a<c:=fun a c h=>Nat.lt_of_mul_lt_mul_right (Nat.lt_of_mul_lt_mul_right h)
 have up:∀a c:Nat,a≤c→a*Z K*d≤c*Z K*d:=fun a c h=>Nat.mul_le_mul_right _ (Nat.mul_le_mul_right _ h)
 have hk52:K=0∨4503599627370496≤k:=by
  rcases h1 with h|h
  ·exact .inl h
  ·right
   rcases Nat.lt_or_ge k 4503599627370496 with c|c
   ·exfalso
    have:=up (2*k+1) 9007199254740991 (by omega);have h9:9007199254740991*Z K*d<9007199254740992*Z K*d:=Nat.mul_lt_mul_of_pos_right (Nat.mul_lt_mul_of_pos_right (by decide) hz) hd;omega
   ·exact c
 by_cases hI:K*4503599627370496+k<INF
 ·rw[Nat.min_eq_left (by omega)]
  have hK:K<2046:=(by unfold INF at hI;omega);refine⟨by omega,?_,.inr ?_⟩
  ·rw[hx]
   by_cases k0:k=0
   ·have:K=0:=by omega
    left;omega
   ·right
    have lo:=lo.resolve_left k0;by_cases c:K=0∨4503599627370496<k
    ·rw[hf_at (K:=K) (k:=k-1) (by omega) (by omega) (by omega) hK,show 2*(k-1)+1=2*k-1 by omega]
     have:(K*4503599627370496+k)%2=k%2:=(by omega);rw[this];exact lo
    ·have hk2:k=4503599627370496:=by omega
     obtain⟨K',rfl⟩:∃K',K=K'+1:=⟨K-1,by omega⟩
     have h1:=h1.resolve_left (by omega);rw[hf_at (K:=K') (k:=9007199254740991) (by omega) (by decide) (by omega) (by omega)];left;refine Nat.lt_of_lt_of_le ?_ h1;apply Nat.mul_lt_mul_of_pos_right _ hd;rw[Z_succ,←Nat.mul_assoc];exact Nat.mul_lt_mul_of_pos_right (by decide) (Z_pos _)
  ·rw[hx]
   by_cases c:k<9007199254740992
   ·rw[hf_at (K:=K) (k:=k) rfl c hk52 hK]
    have:(K*4503599627370496+k)%2=k%2:=(by omega);rw[this];exact hi
   ·have hk2:k=9007199254740992:=by omega
    left;have hK2:K+1<2046:=(by unfold INF at hI;omega);rw[hf_at (K:=K+1) (k:=4503599627370496) (by omega) (by decide) (by omega) hK2];refine Nat.lt_trans h2 ?_;apply Nat.mul_lt_mul_of_pos_right _ hd;rw[Z_succ,←Nat.mul_assoc];exact Nat.mul_lt_mul_of_pos_right (by decide) hz
 ·rw[Nat.min_eq_right (by omega)]
  refine⟨Nat.le_refl _,.inr ?_,.inl rfl⟩;rw[hx];obtain⟨q,hq⟩:∃q:Nat,q=2045:=⟨_,rfl⟩
  have eI:hf (INF-1)=18014398509481983*Z q:=by
   rw[hf_at (K:=q) (k:=9007199254740991) (by unfold INF;omega) (by decide) (.inr (by decide)) (by omega)]
  rw[eI];unfold INF at hI;have hK:q≤K:=(by omega);by_cases c:K=q
  ·have hk2:k=9007199254740992:=by omega
   subst hk2;rw[c]at lo;rcases lo with lo|lo|lo
   ·exact absurd lo (by decide)
   ·exact .inl lo
   ·exact .inr ⟨lo.1,by decide⟩
  ·have h1:=h1.resolve_left (by omega)
   left;refine Nat.lt_of_lt_of_le ?_ h1;apply Nat.mul_lt_mul_of_pos_right _ hd;obtain⟨j,hj2⟩:∃j,K=q+(j+1):=⟨K-q-1,by omega⟩
   rw[hj2,←Z_mul,Z_succ];have hj:=Z_pos j;have h3:9007199254740992*Z q*2≤9007199254740992*Z q*(2*Z j):=Nat.mul_le_mul_left _ (by omega);have h4:=Z_pos q;rw[←Nat.mul_assoc 9007199254740992 (Z q)];generalize Z q=z at *;generalize Z j=y at *;omega
end FS
namespace FS
structure Cut (n G c:Nat):Prop where
 lo:c=0∨(2*c-1)*G<2*n∨((2*c-1)*G=2*n∧c%2=0)
 hi:2*n<(2*c+1)*G∨(2*n=(2*c+1)*G∧c%2=0)
theorem cut_div {n G:Nat}(hG:0<G)(b:Bool)(hb:b=(decide (G<2*(n%G)) ||(G==2*(n%G) && n/G%2==1))):Cut n G (n/G+b.toNat):=by
 have hn:G*(n/G)+n%G=n:=Nat.div_add_mod n G;have hr:=Nat.mod_lt n hG;generalize n/G=q at *;generalize n%G=r at *;have e1:(2*(q+1)-1)*G=2*(G*q)+G:=(by rw[show 2*(q+1)-1=2*q+1 by omega,Nat.add_mul,Nat.one_mul,Nat.mul_assoc,Nat.mul_comm q]);have e2:(2*(q+1)+1)*G=2*(G*q)+3*G:=(by rw[show 2*(q+1)+1=2*q+3 by omega,Nat.add_mul,Nat.mul_assoc,Nat.mul_comm q]);have e3:(2*q+1)*G=2*(G*q)+G:=(by rw[Nat.add_mul,Nat.one_mul,Nat.mul_assoc,Nat.mul_comm q]);have e4:q≠0→(2*q-1)*G+G=2*(G*q):=fun h=>by
  have h1:(2*q-1)*G+G=(2*q-1+1)*G:=(by rw[Nat.add_mul,Nat.one_mul]);rw[h1,show 2*q-1+1=2*q by omega,Nat.mul_assoc,Nat.mul_comm q]
 cases b with
 |true=>
  have hb:=hb.symm;simp only[Bool.or_eq_true,Bool.and_eq_true,decide_eq_true_eq,beq_iff_eq]at hb;show Cut n G (q+1)
  refine⟨.inr ?_,.inl ?_⟩
  ·rw[e1];omega
  ·rw[e2];omega
 |false=>
  have hb:=hb.symm;simp only[Bool.or_eq_false_iff,Bool.and_eq_false_imp,decide_eq_false_iff_not,beq_iff_eq,bf]at hb;show Cut n G (q+0)
  rw[Nat.add_zero];refine⟨?_,?_⟩
  ·by_cases h0:q=0
   ·exact .inl h0
   ·have:=e4 h0
    exact .inr (.inl (by omega))
  ·rw[e3]
   by_cases c:G=2*r
   ·exact .inr ⟨by omega,by have:=hb.2 c;omega⟩
   ·exact .inl (by omega)
theorem cut_even (neg:Bool)(n drop:Nat):Cut n (2^drop) (Ieee.Toward.even.cut neg n drop):=by
 unfold Ieee.Toward.cut;by_cases c:drop≤n.log2+2
 ·rw[Nat.min_eq_left c,Nat.one_shiftLeft]
  exact cut_div (Nat.two_pow_pos drop) _ rfl
 ·rw[Nat.min_eq_right (by omega),Nat.one_shiftLeft]
  have h1:n<2^(n.log2+1):=Nat.lt_log2_self;have h2:2^(n.log2+2)=2*2^(n.log2+1):=(by rw[Nat.pow_succ,Nat.mul_comm]);have h3:2^(n.log2+2)<2^drop:=Nat.pow_lt_pow_right (by decide) (by omega);have hlt:n<2^(n.log2+2):=(by omega);have e:(n/2^(n.log2+2))=0:=Nat.div_eq_of_lt hlt;have e':(n%2^(n.log2+2))=n:=Nat.mod_eq_of_lt hlt;simp only[e,e'];have b1:decide (2^(n.log2+2)<2*n)=false:=decide_eq_false (by omega);have b2:(2^(n.log2+2)==2*n)=false:=bf.2 (by omega);rw[b1,b2];refine⟨.inl rfl,.inl ?_⟩;show 2*n<(2*0+1)*2^drop
  omega
structure Kept (mag a s K k:Nat):Prop where
 hk:k≤9007199254740992
 h1:K=0∨9007199254740992*Z K*Z s≤mag*Z a*Z 1075
 h2:mag*Z a*Z 1075<18014398509481984*Z K*Z s
 lo:k=0∨(2*k-1)*Z K*Z s<mag*Z a*Z 1075∨((2*k-1)*Z K*Z s=mag*Z a*Z 1075∧k%2=0)
 hi:mag*Z a*Z 1075<(2*k+1)*Z K*Z s∨(mag*Z a*Z 1075=(2*k+1)*Z K*Z s∧k%2=0)
theorem Z_mono' {a b:Nat}(h:a≤b):Z a≤Z b:=Nat.pow_le_pow_right (by decide) h
theorem nearest_kept {mag a s:Nat}{place:Int}(hm:mag≠0)(hp:(a:Int)-s=place) :
  ∃K k,Ieee.double.nearest false mag place=min (K*4503599627370496+k) INF∧Kept mag a s K k∧place+mag.log2-52≤(K:Int)-1074:=by
 unfold Ieee.Format.nearest;rw[if_neg hm];have el:Ieee.double.leastPlace = -1074:=(by decide);have ef:(Ieee.double.fractionBits:Int)=52:=(by decide);have eb:Ieee.double.binade=4503599627370496:=(by decide);have ei:Ieee.double.infRung=INF:=(by decide);simp only[el,ef,eb,ei,Ieee.Format.word,Bool.false_eq_true,if_false];obtain⟨last,hl⟩:∃last:Int,last=max (place+(mag.log2:Int)-52) (-1074):=⟨_,rfl⟩
 rw[←hl];have hl1:place+(mag.log2:Int)-52≤last:=(by omega);have hl2 : -1074≤last:=(by omega);have hl3:last = -1074∨last=place+(mag.log2:Int)-52:=(by omega);clear hl;have hc:=cut_even false (mag <<< (place-last).toNat) (last-place).toNat;obtain⟨k,hk⟩:∃k,k=Ieee.Toward.even.cut false (mag <<< (place-last).toNat) (last-place).toNat:=⟨_,rfl⟩
 rw[←hk]at hc;refine⟨(last+1074).toNat,k,by rw[←hk];rfl,?_,by omega⟩;clear hk;rw[Nat.shiftLeft_eq]at hc;obtain⟨K,hK⟩:∃K,K=(last+1074).toNat:=⟨_,rfl⟩
 obtain⟨c,hcc⟩:∃c,c=a+1074-(place-last).toNat:=⟨_,rfl⟩
 rw[←hK];have ex2:2*(mag*2^(place-last).toNat)*Z c=mag*Z a*Z 1075:=by
  show 2*(mag*Z (place-last).toNat)*Z c=_
  rw[Nat.mul_assoc mag,Z_mul,←Nat.mul_assoc,Nat.mul_comm 2,Nat.mul_assoc,Nat.mul_assoc,Z_mul,←Z_succ];congr 2
  omega
 have eG:2^(last-place).toNat * Z c=Z K*Z s:=by
  show Z _*Z c=_
  rw[Z_mul,Z_mul];congr 1
  omega
 have hcz:=Z_pos c;have scale:∀y:Nat,y*Z K*Z s=y*2^(last-place).toNat * Z c:=fun y=>by
  rw[Nat.mul_assoc,←eG,Nat.mul_assoc]
 have hb1:mag<2^(mag.log2+1):=Nat.lt_log2_self;have hb2:2^mag.log2≤mag:=Nat.log2_self_le hm;have H2:mag*Z a*Z 1075<18014398509481984*Z K*Z s:=by
  have h1:mag*Z a*Z 1075<Z (mag.log2+1)*Z a*Z 1075:=
   Nat.mul_lt_mul_of_pos_right (Nat.mul_lt_mul_of_pos_right hb1 (Z_pos _)) (Z_pos _)
  refine Nat.lt_of_lt_of_le h1 ?_;rw[show 18014398509481984=Z 54 by decide,Z_mul,Z_mul,Z_mul,Z_mul];exact Z_mono' (by omega)
 refine⟨?_,?_,H2,?_,?_⟩
 ·rcases hc.lo with h|h
  ·omega
  ·rw[←ex2,show 18014398509481984*Z K*Z s=18014398509481984*2^(last-place).toNat * Z c from scale _]at H2
   have h3:=Nat.lt_of_mul_lt_mul_right H2;have h4:(2*k-1)*2^(last-place).toNat<18014398509481984*2^(last-place).toNat:=(by omega);have:=Nat.lt_of_mul_lt_mul_right h4;omega
 ·by_cases h0:last = -1074
  ·left;omega
  ·right
   have hl3:=hl3.resolve_left h0;have h1:Z mag.log2*Z a*Z 1075≤mag*Z a*Z 1075:=Nat.mul_le_mul_right _ (Nat.mul_le_mul_right _ hb2);refine Nat.le_trans ?_ h1;rw[show 9007199254740992=Z 53 by decide,Z_mul,Z_mul,Z_mul,Z_mul];exact Z_mono' (by omega)
 ·rw[scale,←ex2]
  rcases hc.lo with h|h|⟨h,h'⟩
  ·exact .inl h
  ·exact .inr (.inl (Nat.mul_lt_mul_of_pos_right h hcz))
  ·exact .inr (.inr ⟨by rw[h],h'⟩)
 ·rw[scale,←ex2]
  rcases hc.hi with h|⟨h,h'⟩
  ·exact .inl (Nat.mul_lt_mul_of_pos_right h hcz)
  ·exact .inr ⟨by rw[h],h'⟩
theorem nearest_rnd {mag a s:Nat}{place:Int}(hm:mag≠0)(hp:(a:Int)-s=place):Rnd (mag*Z a) (Z s) (Ieee.double.nearest false mag place):=by
 obtain⟨K,k,e,h,_⟩:=nearest_kept hm hp;rw[e];exact rnd_of (Z_pos s) h.hk h.h1 h.h2 h.lo h.hi
theorem read_pos {b:Nat}(hb:b<INF):Ieee.double.read b=.number false (mOf b) (eOf b):=by
 unfold Ieee.Format.read;have e1:Ieee.double.signWeight=9223372036854775808:=(by decide);have e2:Ieee.double.binade=4503599627370496:=(by decide);have e3:Ieee.double.infRung=INF:=(by decide);have e4:Ieee.double.leastPlace = -1074:=(by decide);unfold INF at hb;have q1:b/9223372036854775808=0:=(by omega);have q2:b%9223372036854775808=b:=(by omega);simp only[e1,e2,e3,e4,q1,q2];unfold INF mOf eOf ex mt;by_cases c:b<4503599627370496
 ·have h0:b/4503599627370496%2048=0:=by omega
  have h1:b%4503599627370496=b:=(by omega);rw[if_pos c,if_pos h0,if_pos h0,h1];rfl
 ·have h0:b/4503599627370496%2048=b/4503599627370496:=by omega
  have h1:¬ b/4503599627370496=0:=(by omega);rw[if_neg c,if_pos hb,h0,if_neg h1,if_neg h1,Nat.add_comm];congr 1
  omega
theorem eOf_ge (b:Nat) : -1074≤eOf b:=by unfold eOf;split<;>omega
theorem mul_rnd {x y:Nat}(hx:x<INF)(hy:y<INF)(h0:mOf x*mOf y≠0):∃b,Ieee.double.mul x y=some b∧Rnd (mOf x*mOf y*Z (eOf x+eOf y+2148).toNat) (Z 2148) b:=by
 refine⟨Ieee.double.nearest false (mOf x*mOf y) (eOf x+eOf y),?_,nearest_rnd h0 ?_⟩
 ·unfold Ieee.Format.mul
  rw[read_pos hx,read_pos hy];rfl
 ·have:=eOf_ge x
  have:=eOf_ge y;omega
theorem quot_rnd {m n:Nat}{i j:Int}(hm:m≠0)(hn:n≠0){a s:Nat}(hp:(a:Int)-s=i-j) :
  ∃b,((Ieee.Datum.number false m i).quotient 54 (.number false n j)).map Ieee.double.write=some b∧Rnd (m*Z a) (n*Z s) b:=by
 obtain⟨mo,hmo⟩:∃mo,mo=54+n.log2-m.log2:=⟨_,rfl⟩
 obtain⟨q,hq⟩:∃q,q=m*2^mo/n:=⟨_,rfl⟩
 obtain⟨r,hr⟩:∃r,r=m*2^mo%n:=⟨_,rfl⟩
 obtain⟨t,ht⟩:∃t,t=(r !=0).toNat:=⟨_,rfl⟩
 have hn0:0<n:=(by omega);have hdm:n*q+r=m*2^mo:=(by rw[hq,hr];exact Nat.div_add_mod _ _);have hrn:r<n:=(by rw[hr];exact Nat.mod_lt _ hn0);have ht2:(t=0∧r=0)∨(t=1∧0<r):=by
  by_cases c:r=0
  ·subst c;left;exact⟨by rw[ht];rfl,rfl⟩
  ·right;refine⟨?_,by omega⟩
   have:(r !=0)=true:=(by simpa using c);rw[ht,this];rfl
 have hq53:9007199254740992≤q:=by
  rw[hq,Nat.le_div_iff_mul_le hn0];have h1:n<2^(n.log2+1):=Nat.lt_log2_self;have h2:2^m.log2≤m:=Nat.log2_self_le hm;have h3:Z 53*n≤Z 53*Z (n.log2+1):=Nat.mul_le_mul_left _ (Nat.le_of_lt h1);have h4:Z m.log2*Z mo≤m*Z mo:=Nat.mul_le_mul_right _ h2;rw[Z_mul]at h3 h4;have h5:Z (53+(n.log2+1))≤Z (m.log2+mo):=Z_mono' (by omega);rw[show 9007199254740992=Z 53 by decide];exact Nat.le_trans h3 (Nat.le_trans h5 h4)
 have hmag:2*q+t≠0:=(by omega);have hlog:54≤(2*q+t).log2:=(Nat.le_log2 hmag).2 (by omega);refine⟨Ieee.double.nearest false (2*q+t) (i-j-mo-1),?_,?_⟩
 ·show Option.map Ieee.double.write (if n=0 then if m=0 then none else some (Ieee.Datum.infinity (false ^^ false))
    else some (Ieee.Datum.number (false ^^ false) (2*((m <<< (54+n.log2-m.log2))/n)+((m <<< (54+n.log2-m.log2))%n !=0).toNat) (i-j-((54+n.log2-m.log2:Nat):Int)-1)))=_
  rw[if_neg hn,←hmo,Nat.shiftLeft_eq,←hq,←hr,←ht];rfl
 ·obtain⟨K,k,e,h,hK⟩:=nearest_kept (mag:=2*q+t) (a:=a) (s:=s+mo+1) (place:=i-j-mo-1) hmag (by omega)
  rw[e];obtain⟨c,hc⟩:∃c,c=a+1075:=⟨_,rfl⟩
  obtain⟨g,hg⟩:∃g,g+c=K+s+mo:=⟨K+s+mo-c,by omega⟩
  have hcz:=Z_pos c;have hmz:=Z_pos mo;have i1:K+(s+mo+1)=g+c+1:=(by omega);have i2:K+(s+mo)=g+c:=(by omega);have hx:(2*q+t)*Z a*Z 1075=(2*q+t)*Z c:=by
   rw[Nat.mul_assoc,Z_mul a 1075,hc]
  have hy:∀y,y*Z K*Z (s+mo+1)=(2*(y*Z g))*Z c:=fun y=>by
   have e1:Z K*Z (s+mo+1)=2*(Z g*Z c):=(by rw[Z_mul,Z_mul,←Z_succ,i1]);rw[Nat.mul_assoc,e1];simp only[Nat.mul_assoc,Nat.mul_left_comm]
  have tx:m*Z a*Z 1075*Z mo=(n*q+r)*Z c:=by
   rw[hdm,hc,←Z_mul a 1075];show _=m*Z mo*_
   simp only[Nat.mul_assoc,Nat.mul_left_comm,Nat.mul_comm]
  have ty:∀y,y*Z K*(n*Z s)*Z mo=(n*(y*Z g))*Z c:=fun y=>by
   have e1:Z K*(Z s*Z mo)=Z g*Z c:=(by rw[Z_mul,Z_mul,Z_mul,i2]);have e2:y*Z K*(n*Z s)*Z mo=y*n*(Z K*(Z s*Z mo)):=(by simp only[Nat.mul_assoc,Nat.mul_left_comm,Nat.mul_comm]);rw[e2,e1];simp only[Nat.mul_assoc,Nat.mul_left_comm,Nat.mul_comm]
  have lt1:∀Y,(n*Y<n*q+r↔2*Y<2*q+t)∧(n*Y=n*q+r↔2*Y=2*q+t)∧(n*q+r<n*Y↔2*q+t<2*Y):=fun Y=>by
   rcases Nat.lt_trichotomy Y q with h1|h1|h1
   ·have:=Nat.mul_le_mul_left n (show Y+1≤q from h1)
    rw[Nat.mul_add,Nat.mul_one]at this;refine⟨⟨fun _=>by omega,fun _=>by omega⟩,⟨fun _=>by omega,fun _=>by omega⟩,⟨fun _=>by omega,fun _=>by omega⟩⟩
   ·subst h1
    refine⟨⟨fun _=>by omega,fun _=>by omega⟩,⟨fun _=>by omega,fun _=>by omega⟩,⟨fun _=>by omega,fun _=>by omega⟩⟩
   ·have:=Nat.mul_le_mul_left n (show q+1≤Y from h1)
    rw[Nat.mul_add,Nat.mul_one]at this;refine⟨⟨fun _=>by omega,fun _=>by omega⟩,⟨fun _=>by omega,fun _=>by omega⟩,⟨fun _=>by omega,fun _=>by omega⟩⟩
  have key:∀y,(y*Z K*(n*Z s)<m*Z a*Z 1075↔y*Z K*Z (s+mo+1)<(2*q+t)*Z a*Z 1075)∧(y*Z K*(n*Z s)=m*Z a*Z 1075↔y*Z K*Z (s+mo+1)=(2*q+t)*Z a*Z 1075)∧
    (m*Z a*Z 1075<y*Z K*(n*Z s)↔(2*q+t)*Z a*Z 1075<y*Z K*Z (s+mo+1)):=fun y=>by
   obtain⟨l1,l2,l3⟩:=lt1 (y*Z g);have hc0:=Nat.pos_iff_ne_zero.1 hcz;have hm0:=Nat.pos_iff_ne_zero.1 hmz;rw[hx,hy];refine⟨?_,?_,?_⟩
   ·rw[←Nat.mul_lt_mul_right hmz,tx,ty,Nat.mul_lt_mul_right hcz,Nat.mul_lt_mul_right hcz,l1]
   ·rw[←Nat.mul_left_inj hm0,tx,ty,Nat.mul_left_inj hc0,Nat.mul_left_inj hc0,l2]
   ·rw[←Nat.mul_lt_mul_right hmz,tx,ty,Nat.mul_lt_mul_right hcz,Nat.mul_lt_mul_right hcz,l3]
  refine rnd_of (Nat.mul_pos hn0 (Z_pos s)) h.hk ?_ ?_ ?_ ?_
  ·rcases h.h1 with h1|h1
   ·exact .inl h1
   ·right
    rcases Nat.lt_or_ge (m*Z a*Z 1075) (9007199254740992*Z K*(n*Z s)) with c1|c1
    ·exact absurd ((key _).2.2.1 c1) (by omega)
    ·exact c1
  ·exact(key _).2.2.2 h.h2
  ·rcases h.lo with h1|h1|⟨h1,h2⟩
   ·exact .inl h1
   ·exact .inr (.inl ((key _).1.2 h1))
   ·exact .inr (.inr ⟨(key _).2.1.2 h1,h2⟩)
  ·rcases h.hi with h1|⟨h1,h2⟩
   ·exact .inl ((key _).2.2.2 h1)
   ·exact .inr ⟨((key _).2.1.2 h1.symm).symm,h2⟩
theorem div_rnd {x y:Nat}(hx:x<INF)(hy:y<INF)(h0:mOf x≠0)(h1:mOf y≠0){a s:Nat}(hp:(a:Int)-s=eOf x-eOf y):∃b,Ieee.double.div x y=some b∧Rnd (mOf x*Z a) (mOf y*Z s) b:=by
 unfold Ieee.Format.div;rw[read_pos hx,read_pos hy];exact quot_rnd h0 h1 hp
end FS
namespace FS
theorem q4_near {u s4 t k:Nat}(ht:0<t)(h0:u%2=0→s4=u*t)(h1:u%2=1→(u-1)*t<s4∧s4<(u+1)*t)(hk:k=(u+1+u/4%2)/4) :
  (k=0∨(4*k-2)*t<s4∨((4*k-2)*t=s4∧k%2=0))∧(s4<(4*k+2)*t∨(s4=(4*k+2)*t∧k%2=0)):=by
 obtain⟨q,r,rfl,hr⟩:∃q r,u=4*q+r∧r<4:=⟨u/4,u%4,by omega,Nat.mod_lt _ (by decide)⟩
 have e:∀a,(4*q+a)*t=4*(q*t)+a*t:=fun a=>by rw[Nat.add_mul,Nat.mul_assoc]
 have e2:(4*q-2)*t=4*(q*t)-2*t:=(by rw[Nat.sub_mul,Nat.mul_assoc]);have e3:q=0∨t≤q*t:=by
  rcases Nat.eq_zero_or_pos q with c|c
  ·exact .inl c
  ·exact .inr (Nat.le_mul_of_pos_left _ c)
 have r4:r=0∨r=1∨r=2∨r=3:=(by omega);rcases r4 with rfl|rfl|rfl|rfl
 ·obtain rfl:k=q:=by omega
  have:=h0 (by omega);rw[e]at this;rw[e,e2];omega
 ·obtain rfl:k=q:=by omega
  have:=h1 (by omega);rw[show 4*k+1-1=4*k+0 by omega,e,show 4*k+1+1=4*k+2 by omega,e]at this;rw[e,e2];omega
 ·have:=h0 (by omega)
  rw[e]at this;rcases Nat.mod_two_eq_zero_or_one q with c|c
  ·obtain rfl:k=q:=by omega
   rw[e,e2];omega
  ·obtain rfl:k=q+1:=by omega
   rw[show 4*(q+1)-2=4*q+2 by omega,e,show 4*(q+1)+2=4*q+6 by omega,e];omega
 ·obtain rfl:k=q+1:=by omega
  have:=h1 (by omega);rw[show 4*q+3-1=4*q+2 by omega,e,show 4*q+3+1=4*q+4 by omega,e]at this;rw[show 4*(q+1)-2=4*q+2 by omega,e,show 4*(q+1)+2=4*q+6 by omega,e];omega
theorem dbl1 (k t:Nat):(4*k-2)*t=2*((2*k-1)*t):=by rw[←Nat.mul_assoc 2,show 4*k-2=2*(2*k-1) by omega]
theorem dbl2 (k t:Nat):(4*k+2)*t=2*((2*k+1)*t):=by rw[←Nat.mul_assoc 2,show 4*k+2=2*(2*k+1) by omega]
theorem q4_rnd0 {n d K u k:Nat}(hd:0<d)(h0:u%2=0→4*(n*Z 1074)=u*(d*Z K))(h1:u%2=1→(u-1)*(d*Z K)<4*(n*Z 1074)∧4*(n*Z 1074)<(u+1)*(d*Z K))(hk:k=(u+1+u/4%2)/4)(hk2:k≤9007199254740992)
  (hlo:K=0∨18014398509481984*(d*Z K)≤4*(n*Z 1074))(hhi:4*(n*Z 1074)<36028797018963968*(d*Z K)):Rnd n d (min (K*4503599627370496+k) INF):=by
 have ht:0<d*Z K:=Nat.mul_pos hd (Z_pos K);obtain⟨a,b⟩:=q4_near ht h0 h1 hk;have es:4*(n*Z 1074)=2*(n*Z 1075):=by
  rw[Z_succ 1074,Nat.mul_left_comm n 2];omega
 have ec:∀c:Nat,c*Z K*d=c*(d*Z K):=fun c=>by rw[Nat.mul_assoc,Nat.mul_comm (Z K) d]
 have e1:=dbl1 k (d*Z K);have e2:=dbl2 k (d*Z K);rw[es]at a b hlo hhi;rw[e1]at a;rw[e2]at b;refine rnd_of hd hk2 ?_ ?_ ?_ ?_
 ·rw[ec];omega
 ·rw[ec];omega
 ·rw[ec];omega
 ·rw[ec];omega
theorem or_low (u:Nat):u/2 |||u%2=if u%2=1∧u/2%2=0 then u/2+1 else u/2:=by
 rcases Nat.mod_two_eq_zero_or_one u with c|c
 ·rw[c,Nat.or_zero,if_neg (by omega)]
 ·rw[c,or_one]
  by_cases h:u/2%2=0
  ·rw[if_pos h,if_pos ⟨rfl,h⟩]
  ·rw[if_neg h,if_neg (by omega)]
def uSh (u:Nat):Nat:=if 36028797018963966≤u then u/2 |||u%2 else u
def kSh (u:Nat):Nat:=(uSh u+1+uSh u/4%2)/4
def KSh (K u:Nat):Nat:=if 36028797018963966≤u then K+1 else K
theorem q4_rnd {n d K u:Nat}(hd:0<d)(h:Q4 u (n*Z 1074) (d*Z K))(hlo:K=0∨18014398509481984*(d*Z K)≤4*(n*Z 1074))(hhi:4*(n*Z 1074)<72057594037927928*(d*Z K)) :
  Rnd n d (min (KSh K u*4503599627370496+kSh u) INF)∧kSh u<9007199254740992∧(KSh K u=0∨4503599627370496≤kSh u)∧u<72057594037927929∧uSh u<36028797018963966:=by
 have ht:0<d*Z K:=Nat.mul_pos hd (Z_pos K);obtain⟨h0,h1⟩:=h;have cancel:∀a c:Nat,a*(d*Z K)<c*(d*Z K)→a<c:=fun a c h=>Nat.lt_of_mul_lt_mul_right h
 have cancel2:∀a c:Nat,a*(d*Z K)≤c*(d*Z K)→a≤c:=fun a c h=>Nat.le_of_mul_le_mul_right h ht
 have hu:u<72057594037927929:=by
  rcases Nat.mod_two_eq_zero_or_one u with c|c
  ·have:=h0 c;have:=cancel u 72057594037927928 (by omega);omega
  ·have:=(h1 c).1;have:=cancel (u-1) 72057594037927928 (by omega);omega
 have hlo2:K=0∨18014398509481984≤u:=by
  rcases hlo with c|c
  ·exact .inl c
  ·right
   rcases Nat.mod_two_eq_zero_or_one u with e|e
   ·have:=h0 e;exact cancel2 _ _ (by omega)
   ·have:=(h1 e).2;have:=cancel 18014398509481984 (u+1) (by omega);omega
 unfold kSh uSh KSh;by_cases c:36028797018963966≤u
 ·simp only[if_pos c]
  rw[or_low];by_cases c2:u<36028797018963968
  ·
   have ek:∀k,k=(u+1+u/4%2)/4→k=9007199254740992:=fun k hk=>by omega
   have hh:4*(n*Z 1074)<36028797018963968*(d*Z K):=by
    rcases Nat.mod_two_eq_zero_or_one u with e|e
    ·rw[h0 e];exact Nat.mul_lt_mul_of_pos_right c2 ht
    ·refine Nat.lt_of_lt_of_le (h1 e).2 (Nat.mul_le_mul_right _ (by omega))
   have R:=q4_rnd0 (k:=(u+1+u/4%2)/4) hd h0 h1 rfl (by omega) hlo hh;have e2:((if u%2=1∧u/2%2=0 then u/2+1 else u/2)+1+(if u%2=1∧u/2%2=0 then u/2+1 else u/2)/4%2)/4=4503599627370496:=by
    split<;>omega
   rw[e2];rw[ek _ rfl]at R;rw[show (K+1)*4503599627370496+4503599627370496=K*4503599627370496+9007199254740992 by omega];refine⟨R,by decide,.inr (by decide),hu,?_⟩;split<;>omega
  ·have e2:d*Z (K+1)=2*(d*Z K):=by rw[Z_succ,Nat.mul_left_comm]
   generalize hv:(if u%2=1∧u/2%2=0 then u/2+1 else u/2)=v;have hl:36028797018963968*(d*Z K)≤4*(n*Z 1074):=by
    rcases Nat.mod_two_eq_zero_or_one u with e|e
    ·rw[h0 e];exact Nat.mul_le_mul_right _ (by omega)
    ·exact Nat.le_trans (Nat.mul_le_mul_right _ (by omega)) (Nat.le_of_lt (h1 e).1)
   have mono:∀a b,a≤b→a*(d*Z K)≤b*(d*Z K):=fun a b hab=>Nat.mul_le_mul_right _ hab
   have dbl:∀a,a*(2*(d*Z K))=(2*a)*(d*Z K):=fun a=>by rw[←Nat.mul_assoc,Nat.mul_comm a 2]
   have g0:v%2=0→4*(n*Z 1074)=v*(d*Z (K+1)):=fun hv2=>by
    rw[e2,dbl];have:u%2=0∧u=2*v:=(by split at hv<;>omega);rw[←this.2];exact h0 this.1
   have g1:v%2=1→(v-1)*(d*Z (K+1))<4*(n*Z 1074)∧4*(n*Z 1074)<(v+1)*(d*Z (K+1)):=fun hv2=>by
    rw[e2,dbl,dbl];rcases Nat.mod_two_eq_zero_or_one u with e|e
    ·have:u=2*v:=by split at hv<;>omega
     rw[h0 e,this];exact⟨Nat.mul_lt_mul_of_pos_right (by omega) ht,Nat.mul_lt_mul_of_pos_right (by omega) ht⟩
    ·have h:=h1 e
     have:2*(v-1)≤u-1∧u+1≤2*(v+1):=(by split at hv<;>omega);exact⟨Nat.lt_of_le_of_lt (mono _ _ this.1) h.1,Nat.lt_of_lt_of_le h.2 (mono _ _ this.2)⟩
   have hv3:v<36028797018963966∧18014398509481984≤v:=(by split at hv<;>omega);have R:=q4_rnd0 (k:=(v+1+v/4%2)/4) hd g0 g1 rfl (by omega) (.inr (by rw[e2];omega)) (by rw[e2];omega);exact⟨R,by omega,.inr (by omega),hu,by omega⟩
 ·simp only[if_neg c]
  have hh:4*(n*Z 1074)<36028797018963968*(d*Z K):=by
   rcases Nat.mod_two_eq_zero_or_one u with e|e
   ·rw[h0 e];exact Nat.mul_lt_mul_of_pos_right (by omega) ht
   ·refine Nat.lt_of_lt_of_le (h1 e).2 (Nat.mul_le_mul_right _ (by omega))
  have R:=q4_rnd0 (k:=(u+1+u/4%2)/4) hd h0 h1 rfl (by omega) hlo hh;refine⟨R,by omega,?_,hu,by omega⟩;rcases hlo2 with e|e
  ·exact .inl e
  ·exact .inr (by omega)
def okB (p:Int):Bool:=decide (Z (lp p).toNat * X (-p).toNat≤X p.toNat * Z (-lp p).toNat) && decide (X p.toNat * Z (-lp p).toNat * 18014398509481984≤36028797018963952*(Z (lp p).toNat * X (-p).toNat))
theorem allB:((List.range 696).all fun i:Nat=>okB ((i:Int)-348))=true:=by decide +kernel
theorem okB_at {p:Int}(h1 : -348≤p)(h2:p≤347):Z (lp p).toNat * X (-p).toNat≤X p.toNat * Z (-lp p).toNat∧X p.toNat * Z (-lp p).toNat * 18014398509481984≤36028797018963952*(Z (lp p).toNat * X (-p).toNat):=by
 have h:=List.all_eq_true.1 allB (p+348).toNat (List.mem_range.2 (by omega));rw[show (((p+348).toNat:Nat):Int)-348=p by omega]at h;unfold okB at h;rw[Bool.and_eq_true,decide_eq_true_eq,decide_eq_true_eq]at h;exact h
def vN (d:Nat)(p:Int):Nat:=d*X p.toNat
def vD (p:Int):Nat:=X (-p).toNat
def eP (b:Nat)(p:Int):Int:=min 1074 (53-b-lp p)
def sP (b:Nat)(p:Int):Int:=61-b-lp p-eP b p
theorem par_q4 {d b:Nat}{p:Int}(h1 : -348≤p)(h2:p≤347)(hb:b≤64)(hb0:1≤b)(hl:Z (b-1)≤d)(hu:d<Z b) :
  Q4 (cut (d*2^(64-b)) (hiOf p) (loOf p) (sP b p).toNat) (vN d p*Z 1074) (vD p*Z (1074-eP b p).toNat):=by
 have hs8:8≤sP b p:=(by unfold sP eP;omega);have hx:2^62≤d*2^(64-b):=by
  have:Z (b-1)*2^(64-b)≤d*2^(64-b):=Nat.mul_le_mul_right _ hl;have e:Z (b-1)*2^(64-b)=2^63:=(by unfold Z;rw[←Nat.pow_add];congr 1;omega);omega
 have hx2:d*2^(64-b)<2^64:=by
  have:d*2^(64-b)<Z b*2^(64-b):=Nat.mul_lt_mul_of_pos_right hu (Nat.two_pow_pos _);have e:Z b*2^(64-b)=2^64:=(by unfold Z;rw[←Nat.pow_add];congr 1;omega);omega
 rw[cutR h1 h2 hx hx2 (by omega)];refine q4_of (Nat.mul_pos (D_pos p) (Nat.two_pow_pos _)) (Nat.mul_pos (X_pos _) (Z_pos _)) ?_;have eA:A p=X p.toNat * Z (127-lp p).toNat:=rfl;have eD:D p=X (-p).toNat * Z (lp p-127).toNat:=rfl;have e2:(2:Nat)^(128+(sP b p).toNat)=Z (128+(sP b p).toNat):=rfl;have e3:(2:Nat)^(64-b)=Z (64-b):=rfl;have hz:Z 1074*(Z 2*(Z (lp p-127).toNat * Z (128+(sP b p).toNat)))=Z (64-b)*(Z (127-lp p).toNat * Z (1074-eP b p).toNat):=by
  rw[Z_mul,Z_mul,Z_mul,Z_mul,Z_mul];have:eP b p≤1074:=(by unfold eP;omega);unfold sP at *;exact congrArg Z (by omega)
 have h4:(4:Nat)=Z 2:=rfl;unfold vN vD;rw[eA,eD,e2,e3,h4];generalize X (-p).toNat=a at *;generalize X p.toNat=c at *;generalize Z 1074=f at *;generalize Z (lp p-127).toNat=g at *;generalize Z (128+(sP b p).toNat)=i at *;generalize Z (64-b)=j at *;generalize Z (127-lp p).toNat=k at *;generalize Z (1074-eP b p).toNat=l at *;generalize Z 2=m at *;have q1:d*c*f*(m*(a*g*i))=d*c*a*(f*(m*(g*i))):=(by ac_rfl);have q2:d*j*(c*k)*(a*l)=d*c*a*(j*(k*l)):=(by ac_rfl);rw[q1,q2,hz]
theorem par_hi {d b:Nat}{p:Int}(h1 : -348≤p)(h2:p≤347)(hu:d<Z b):4*(vN d p*Z 1074)<72057594037927928*(vD p*Z (1074-eP b p).toNat):=by
 obtain⟨_,hU⟩:=okB_at h1 h2;unfold vN vD;have he:1021+b+lp p≤((1074-eP b p).toNat:Int):=(by unfold eP;omega);generalize (1074-eP b p).toNat=E at *;have hG:0<Z (-lp p).toNat:=Z_pos _;apply Nat.lt_of_mul_lt_mul_right (a:=Z (-lp p).toNat * 18014398509481984);obtain⟨j,hj⟩:∃j,E+(-lp p).toNat=1021+b+(lp p).toNat+j:=⟨E+(-lp p).toNat-(1021+b+(lp p).toNat),by omega⟩
 have hz:Z E*Z (-lp p).toNat=Z 1021*Z b*Z (lp p).toNat * Z j:=(by rw[Z_mul,Z_mul,Z_mul,Z_mul,hj]);have h53:Z 1074=Z 1021*9007199254740992:=(by rw[show (9007199254740992:Nat)=Z 53 from rfl,Z_mul]);have hj1:1≤Z j:=Z_pos j;have h21:0<Z 1021:=Z_pos _;have hX:0<X (-p).toNat:=X_pos _;have hlp:0<Z (lp p).toNat:=Z_pos _;generalize X p.toNat=a at *;generalize X (-p).toNat=c at *;generalize Z (-lp p).toNat=g at *;generalize Z (lp p).toNat=l at *;generalize Z 1074=f at *;generalize Z 1021=f2 at *;generalize Z E=z at *;generalize Z b=y at *;generalize Z j=v at *;subst h53
 have s1:d*(a*g*18014398509481984)≤d*(36028797018963952*(l*c)):=Nat.mul_le_mul_left _ hU;have s2:d*(36028797018963952*(l*c))<y*(36028797018963952*(l*c)):=Nat.mul_lt_mul_of_pos_right hu (Nat.mul_pos (by decide) (Nat.mul_pos hlp hX));have s3:d*(a*g*18014398509481984)<y*(36028797018963952*(l*c)):=Nat.lt_of_le_of_lt s1 s2;have s4:d*(a*g*18014398509481984)*(f2*36028797018963968)<y*(36028797018963952*(l*c))*(f2*36028797018963968):=Nat.mul_lt_mul_of_pos_right s3 (by omega);have e1:4*(d*a*(f2*9007199254740992))*(g*18014398509481984)=d*(a*g*18014398509481984)*(f2*36028797018963968):=by
  rw[show (36028797018963968:Nat)=4*9007199254740992 from rfl];ac_rfl
 have e2:72057594037927928*(c*z)*(g*18014398509481984)=(f2*y*l*v)*(c*(72057594037927928*18014398509481984)):=by
  have:72057594037927928*(c*z)*(g*18014398509481984)=(z*g)*(c*(72057594037927928*18014398509481984)):=(by ac_rfl);rw[this,hz]
 have e3:y*(36028797018963952*(l*c))*(f2*36028797018963968)=(f2*y*l)*(c*(36028797018963952*36028797018963968)):=(by ac_rfl);rw[e1,e2];refine Nat.lt_of_lt_of_le s4 ?_;rw[e3];refine Nat.mul_le_mul (Nat.le_mul_of_pos_right _ hj1) (Nat.mul_le_mul_left _ (by decide))
theorem par_lo {d b:Nat}{p:Int}(h1 : -348≤p)(h2:p≤347)(hb0:1≤b)(hl:Z (b-1)≤d):(1074-eP b p).toNat=0∨18014398509481984*(vD p*Z (1074-eP b p).toNat)≤4*(vN d p*Z 1074):=by
 by_cases hc:(1074-eP b p).toNat=0
 ·exact .inl hc
 right;obtain⟨hL,_⟩:=okB_at h1 h2;unfold vN vD;have he:((1074-eP b p).toNat:Int)=1021+b+lp p:=(by unfold eP at *;omega);generalize (1074-eP b p).toNat=E at *;have hG:0<Z (-lp p).toNat:=Z_pos _;apply Nat.le_of_mul_le_mul_right (c:=Z (-lp p).toNat) _ hG;have hj:E+(-lp p).toNat=1022+(b-1)+(lp p).toNat:=(by omega);have hz:Z E*Z (-lp p).toNat=Z 1022*Z (b-1)*Z (lp p).toNat:=(by rw[Z_mul,Z_mul,Z_mul,hj]);have h53:Z 1074=Z 1022*4503599627370496:=(by rw[show (4503599627370496:Nat)=Z 52 from rfl,Z_mul]);generalize X p.toNat=a at *;generalize X (-p).toNat=c at *;generalize Z (-lp p).toNat=g at *
 generalize Z (lp p).toNat=l at *;generalize Z 1074=f at *;generalize Z 1022=f2 at *;generalize Z E=z at *;generalize Z (b-1)=y at *;subst h53;have e1:18014398509481984*(c*z)*g=f2*18014398509481984*(y*(l*c)):=by
  have:18014398509481984*(c*z)*g=18014398509481984*c*(z*g):=(by ac_rfl);rw[this,hz];ac_rfl
 have e2:4*(d*a*(f2*4503599627370496))*g=f2*18014398509481984*(d*(a*g)):=by
  rw[show (18014398509481984:Nat)=4*4503599627370496 from rfl];ac_rfl
 rw[e1,e2];exact Nat.mul_le_mul_left _ (Nat.mul_le_mul hl hL)
def parB (d b:Nat)(p:Int):Nat:=
 if 64≤sP b p then 0
 else let u:=cut (d*2^(64-b)) (hiOf p) (loOf p) (sP b p).toNat
  min (KSh (1074-eP b p).toNat u*4503599627370496+kSh u) INF
theorem par_small {d b:Nat}{p:Int}(h1 : -348≤p)(h2:p≤347)(hu:d<Z b)(hs:64≤sP b p):Rnd (vN d p) (vD p) 0:=by
 have h:=par_hi h1 h2 hu;have he:eP b p=1074∧b+lp p≤-1077:=(by unfold sP eP at *;omega);obtain⟨_,hU⟩:=okB_at h1 h2;refine⟨by decide,.inl rfl,.inr (.inl ?_)⟩;have hf:hf 0=1:=(by rw[hf_low (by decide)]);rw[hf,Nat.one_mul];unfold vN vD;have hG:0<Z (-lp p).toNat:=Z_pos _;obtain⟨j,hj⟩:∃j,(-lp p).toNat=1077+b+j:=⟨(-lp p).toNat-(1077+b),by omega⟩
 rw[show (lp p).toNat=0 by omega,hj]at hU;have hz:Z (1077+b+j)=4*Z 1075*Z b*Z j:=by
  rw[show (4:Nat)=Z 2 from rfl,Z_mul,Z_mul,Z_mul]
 rw[hz]at hU;have hj1:1≤Z j:=Z_pos j;have h75:0<Z 1075:=Z_pos _;have hX:0<X (-p).toNat:=X_pos _;have h0:Z 0=1:=rfl;rw[h0,Nat.one_mul]at hU;generalize X p.toNat=a at *;generalize X (-p).toNat=c at *;generalize Z 1075=f at *;generalize Z b=y at *;generalize Z j=v at *;have k1:d*a*f≤a*(f*y*v):=by
  have:d*a*f=a*(f*d):=(by ac_rfl);rw[this];refine Nat.mul_le_mul_left _ ?_;rw[Nat.mul_assoc];refine Nat.mul_le_mul_left _ ?_;exact Nat.le_trans (Nat.le_of_lt hu) (Nat.le_mul_of_pos_right _ hj1)
 have k2:a*(4*f*y*v)*18014398509481984=72057594037927936*(a*(f*y*v)):=by
  rw[show (72057594037927936:Nat)=4*18014398509481984 from rfl];ac_rfl
 rw[k2]at hU;omega
theorem par_rnd {d b:Nat}{p:Int}(h1 : -348≤p)(h2:p≤347)(hb:b≤64)(hb0:1≤b)(hl:Z (b-1)≤d)(hu:d<Z b):Rnd (vN d p) (vD p) (parB d b p):=by
 unfold parB;split
 ·rename_i hs
  exact par_small h1 h2 hu hs
 ·exact(q4_rnd (X_pos _) (par_q4 h1 h2 hb hb0 hl hu) (par_lo h1 h2 hb0 hl) (par_hi h1 h2 hu)).1
end FS
end Go.Proofs.YtieknenhfeejiaaGreatDoor
namespace Go.Proofs.YtieknenhfeejiaaGreatDoor
open Ieee
namespace FO
def INF:Nat:=9218868437227405312
def rg (x:Nat):Nat:=x%9223372036854775808
def sg (x:Nat):Bool:=decide (9223372036854775808≤x)
def isN (x:Nat):Bool:=decide (INF<rg x)
def vl (r:Nat):Nat:=if r<4503599627370496 then r else(4503599627370496+r%4503599627370496)*2^(r/4503599627370496-1)
def kr (x:Nat):Int:=if sg x then -(rg x:Int) else rg x
theorem two52 (q t:Nat)(ht:t<4503599627370496):((q+1)*4503599627370496+t)%4503599627370496=t∧((q+1)*4503599627370496+t)/4503599627370496-1=q:=by omega
theorem full52 (q t:Nat)(ht:t+1=4503599627370496):(q+1)*4503599627370496+t+1=(q+1+1)*4503599627370496+0:=by omega
theorem vl_succ (r:Nat):vl r<vl (r+1):=by
 unfold vl;by_cases h:r+1<4503599627370496
 ·rw[if_pos (by omega),if_pos h];omega
 ·rw[if_neg h]
  by_cases h1:r<4503599627370496
  ·obtain rfl:r=4503599627370495:=by omega
   rw[if_pos h1];decide
  ·rw[if_neg h1]
   obtain⟨q,t,rfl,ht⟩:∃q t,r=(q+1)*4503599627370496+t∧t<4503599627370496:=⟨r/4503599627370496-1,r%4503599627370496,by omega,Nat.mod_lt _ (by decide)⟩
   obtain⟨e1,e2⟩:=two52 q t ht;have hp:=Nat.two_pow_pos q;rw[e1,e2];by_cases h2:t+1<4503599627370496
   ·obtain⟨e3,e4⟩:=two52 q (t+1) h2
    rw[Nat.add_assoc,e3,e4];exact Nat.mul_lt_mul_of_pos_right (by omega) hp
   ·obtain⟨e3,e4⟩:=two52 (q+1) 0 (by decide)
    have e5:(q+1)*4503599627370496+t+1=(q+1+1)*4503599627370496+0:=full52 q t (by omega);rw[e5,e3,e4,Nat.pow_succ,Nat.mul_comm (2^q) 2,←Nat.mul_assoc];exact Nat.mul_lt_mul_of_pos_right (by omega) hp
theorem vl_lt {r s:Nat}(h:r<s):vl r<vl s:=by
 induction h with
 |refl=>exact vl_succ r
 |step h ih=>exact Nat.lt_trans ih (vl_succ _)
theorem vl_lt_iff {r s:Nat}:vl r<vl s↔r<s:=by
 constructor
 ·intro h
  rcases Nat.lt_trichotomy r s with c|c|c
  ·exact c
  ·subst c;omega
  ·have:=vl_lt c;omega
 ·exact vl_lt
theorem vl_zero:vl 0=0:=rfl
theorem read_eq {x:Nat}(hx:x<18446744073709551616):double.read x=if rg x<4503599627370496 then .number (sg x) (rg x) (-1074)
  else if rg x<INF then .number (sg x) (4503599627370496+rg x%4503599627370496) (-1074+(rg x/4503599627370496-1:Nat))
  else if rg x=INF then .infinity (sg x) else .nan (sg x) (rg x-INF):=by
 have hs:(x/double.signWeight%2==1)=sg x:=by
  rw[show double.signWeight=9223372036854775808 from by decide];unfold sg;by_cases h:9223372036854775808≤x
  ·rw[decide_eq_true h,beq_iff_eq];omega
  ·rw[decide_eq_false h,bf];omega
 unfold Format.read;simp only;rw[hs,show double.signWeight=9223372036854775808 from by decide,show double.binade=4503599627370496 from by decide,show double.infRung=INF from by decide,show double.leastPlace = -1074 from by decide];rfl
theorem read_num {x:Nat}(hx:x<18446744073709551616)(h:rg x<INF):∃m e,double.read x=.number (sg x) m e∧-1074≤e∧m*2^(e+1074).toNat=vl (rg x):=by
 rw[read_eq hx];by_cases c:rg x<4503599627370496
 ·refine⟨rg x,-1074,by rw[if_pos c],by decide,?_⟩
  unfold vl;rw[if_pos c];simp
 ·refine⟨_,_,by rw[if_neg c,if_pos h],by omega,?_⟩
  unfold vl;rw[if_neg c];congr 2;omega
theorem compare_scale (a b:Int)(C:Nat)(hC:0<C):compare a b=compare (a*C) (b*C):=by
 have hC':(0:Int)<C:=(by omega);rcases Int.lt_trichotomy a b with h|h|h
 ·rw[Int.compare_eq_lt.2 h,Int.compare_eq_lt.2 (Int.mul_lt_mul_of_pos_right h hC')]
 ·subst h;rw[Int.compare_eq_eq.2 rfl,Int.compare_eq_eq.2 rfl]
 ·rw[Int.compare_eq_gt.2 h,Int.compare_eq_gt.2 (Int.mul_lt_mul_of_pos_right h hC')]
theorem signed_mul (s:Bool)(m k C:Nat):signed s m k*(C:Int)=signed s (m <<< k*C) 0:=by
 unfold signed;cases s
 ·simp
 ·simp[Int.neg_mul]
theorem compare_sg {s t:Bool}{a b:Nat}:compare (signed s (vl a) 0) (signed t (vl b) 0)=compare (if s then -(a:Int) else a) (if t then -(b:Int) else b):=by
 have h1:=@vl_lt_iff a b;have h2:=@vl_lt_iff b a;have h3:=@vl_lt_iff 0 a;have h4:=@vl_lt_iff 0 b;rw[vl_zero]at h3 h4;generalize vl a=x at *;generalize vl b=y at *;have hx:signed s x 0=if s then -(x:Int) else x:=by unfold signed;simp
 have hy:signed t y 0=if t then -(y:Int) else y:=by unfold signed;simp
 rw[hx,hy];generalize hA:(if s then -(a:Int) else a)=A;generalize hB:(if t then -(b:Int) else b)=B;generalize hX:(if s then -(x:Int) else x)=X;generalize hY:(if t then -(y:Int) else y)=Y;have k1:X<Y↔A<B:=(by subst hA hB hX hY;cases s<;>cases t<;>simp<;>omega);have k2:Y<X↔B<A:=(by subst hA hB hX hY;cases s<;>cases t<;>simp<;>omega);rcases Int.lt_trichotomy A B with h|h|h
 ·rw[Int.compare_eq_lt.2 h,Int.compare_eq_lt.2 (k1.2 h)]
 ·rw[Int.compare_eq_eq.2 h,Int.compare_eq_eq.2 (by omega)]
 ·rw[Int.compare_eq_gt.2 h,Int.compare_eq_gt.2 (k2.2 h)]
theorem order_eq {x y:Nat}(hx:x<18446744073709551616)(hy:y<18446744073709551616):FloatKind.f64.format.order x y=if isN x ||isN y then none else some (compare (kr x) (kr y)):=by
 show (double.read x).order (double.read y)=_
 have nanx:∀z,z<18446744073709551616→isN z=true→double.read z=.nan (sg z) (rg z-INF):=fun z hz h=>by
  have h':INF<rg z:=of_decide_eq_true h;have:INF=9218868437227405312:=rfl;rw[read_eq hz,if_neg (by omega),if_neg (by omega),if_neg (by omega)]
 have infx:∀z,z<18446744073709551616→rg z=INF→double.read z=.infinity (sg z):=fun z hz h=>by
  have:INF=9218868437227405312:=rfl;rw[read_eq hz,if_neg (by omega),if_neg (by omega),if_pos h]
 by_cases cx:isN x=true
 ·rw[nanx x hx cx,cx];rfl
 ·by_cases cy:isN y=true
  ·rw[nanx y hy cy,cy]
   simp only[Bool.or_true,if_true];cases double.read x<;>rfl
  ·rw[if_neg (by simp[cx,cy])]
   have bx:rg x≤INF:=(by simpa[isN] using cx);have bY:rg y≤INF:=(by simpa[isN] using cy);have hp:INF=9218868437227405312:=rfl;by_cases ix:rg x=INF
   ·rw[infx x hx ix]
    by_cases iy:rg y=INF
    ·rw[infx y hy iy]
     show some (compare (sg y).toNat (sg x).toNat)=_
     unfold kr;rw[ix,iy,hp];cases sg x<;>cases sg y<;>decide
    ·obtain⟨m,e,hr,_,_⟩:=read_num hy (by omega)
     rw[hr];show some (if sg x then Ordering.lt else .gt)=_
     congr 1
     unfold kr;rw[ix];cases sg x
     ·simp only[Bool.false_eq_true,if_false];rw[eq_comm,Int.compare_eq_gt];split<;>omega
     ·simp only[if_true];rw[eq_comm,Int.compare_eq_lt];split<;>omega
   ·obtain⟨m,e,hr,he,hv⟩:=read_num hx (by omega)
    rw[hr];by_cases iy:rg y=INF
    ·rw[infx y hy iy]
     show some (if sg y then Ordering.gt else .lt)=_
     congr 1
     unfold kr;rw[iy];cases sg y
     ·simp only[Bool.false_eq_true,if_false];rw[eq_comm,Int.compare_eq_lt];split<;>omega
     ·simp only[if_true];rw[eq_comm,Int.compare_eq_gt];split<;>omega
    ·obtain⟨n,f,hr2,hf,hv2⟩:=read_num hy (by omega)
     rw[hr2];show some (compare (signed (sg x) m (e-min e f).toNat) (signed (sg y) n (f-min e f).toNat))=_
     rw[compare_scale _ _ (2^(min e f+1074).toNat) (Nat.two_pow_pos _),signed_mul,signed_mul,Nat.shiftLeft_eq,Nat.shiftLeft_eq,Nat.mul_assoc,Nat.mul_assoc,←Nat.pow_add,←Nat.pow_add,
      show (e-min e f).toNat+(min e f+1074).toNat=(e+1074).toNat by omega,show (f-min e f).toNat+(min e f+1074).toNat=(f+1074).toNat by omega,hv,hv2,compare_sg]
     rfl
theorem lt_eq {x y:Nat}(hx:x<18446744073709551616)(hy:y<18446744073709551616):(FloatKind.f64.format.order x y==some Ordering.lt)=(!isN x && !isN y && decide (kr x<kr y)):=by
 rw[order_eq hx hy];cases isN x<;>cases isN y<;>simp
 rcases Int.lt_trichotomy (kr x) (kr y) with h|h|h
 ·rw[Int.compare_eq_lt.2 h,decide_eq_true h];rfl
 ·rw[Int.compare_eq_eq.2 h,decide_eq_false (by omega)];rfl
 ·rw[Int.compare_eq_gt.2 h,decide_eq_false (by omega)];rfl
theorem gt_eq {x y:Nat}(hx:x<18446744073709551616)(hy:y<18446744073709551616):(FloatKind.f64.format.order x y==some Ordering.gt)=(!isN x && !isN y && decide (kr y<kr x)):=by
 rw[order_eq hx hy];cases isN x<;>cases isN y<;>simp
 rcases Int.lt_trichotomy (kr x) (kr y) with h|h|h
 ·rw[Int.compare_eq_lt.2 h,decide_eq_false (by omega)];rfl
 ·rw[Int.compare_eq_eq.2 h,decide_eq_false (by omega)];rfl
 ·rw[Int.compare_eq_gt.2 h,decide_eq_true h];rfl
theorem eq_eq {x y:Nat}(hx:x<18446744073709551616)(hy:y<18446744073709551616):(FloatKind.f64.format.order x y==some Ordering.eq)=(!isN x && !isN y && decide (kr x=kr y)):=by
 rw[order_eq hx hy];cases isN x<;>cases isN y<;>simp
 rcases Int.lt_trichotomy (kr x) (kr y) with h|h|h
 ·rw[Int.compare_eq_lt.2 h,decide_eq_false (by omega)];rfl
 ·rw[Int.compare_eq_eq.2 h,decide_eq_true h];rfl
 ·rw[Int.compare_eq_gt.2 h,decide_eq_false (by omega)];rfl
end FO
namespace FO
end FO
end Go.Proofs.YtieknenhfeejiaaGreatDoor
namespace Go.Proofs.YtieknenhfeejiaaGreatDoor
namespace FS
theorem Rnd.mono {n d n' d' b b':Nat}(hd:0<d)(hd':0<d')(h:Rnd n d b)(k:Rnd n' d' b')(hle:n*d'≤n'*d):b≤b':=by
 rcases Nat.lt_or_ge b' b with c|c
 ·exfalso
  have hbI:=h.le;have h2:b≠0:=(by omega);have h1:b'≠INF:=(by omega);have hh:hf b'≤hf (b-1):=hf_mono (by omega) (by omega);have a:=h.lo.resolve_left h2;have e:=k.hi.resolve_left h1;have q1:hf b'*d'*d≤hf (b-1)*d*d':=by
   rw[Nat.mul_right_comm];exact Nat.mul_le_mul_right _ (Nat.mul_le_mul_right _ hh)
  have q2:n*Z 1075*d'≤n'*Z 1075*d:=by
   rw[Nat.mul_right_comm,Nat.mul_right_comm n'];exact Nat.mul_le_mul_right _ hle
  rcases a with a|a
  ·have:=Nat.mul_lt_mul_of_pos_right a hd'
   rcases e with e|e
   ·have:=Nat.mul_lt_mul_of_pos_right e hd;omega
   ·rw[e.1]at q2;omega
  ·have ha:=a.1
   rw[ha]at q1;rcases e with e|e
   ·have:=Nat.mul_lt_mul_of_pos_right e hd;omega
   ·have he:=e.1
    have q3:hf b'*d'*d=hf (b-1)*d*d':=(by rw[ha];rw[he]at q2;omega);rw[Nat.mul_right_comm]at q3;have q4:hf b'*d=hf (b-1)*d:=Nat.eq_of_mul_eq_mul_right hd' q3;have q5:hf b'=hf (b-1):=Nat.eq_of_mul_eq_mul_right hd q4;by_cases c2:b'<b-1
    ·have:=hf_lt c2 (by omega);omega
    ·omega
 ·exact c
theorem Rnd.between {n1 n n2 d b:Nat}(h:Rnd n1 d b)(k:Rnd n2 d b)(h1:n1≤n)(h2:n≤n2):Rnd n d b:=by
 have e1:n1*Z 1075≤n*Z 1075:=Nat.mul_le_mul_right _ h1;have e2:n*Z 1075≤n2*Z 1075:=Nat.mul_le_mul_right _ h2;refine⟨h.le,?_,?_⟩
 ·have:=h.lo;omega
 ·have:=k.hi;omega
structure Is (x m:Nat):Prop where
 lt:x<INF
 e:mOf x*Z (eOf x+1074).toNat=m*Z 1074
theorem Is.zero {x m:Nat}(h:Is x m):mOf x=0↔m=0:=by
 have:=h.e
 constructor
 ·intro c;rw[c,Nat.zero_mul]at this
  rcases Nat.mul_eq_zero.1 this.symm with q|q
  ·exact q
  ·have:=Z_pos 1074;omega
 ·rintro rfl;rw[Nat.zero_mul]at this
  rcases Nat.mul_eq_zero.1 this with q|q
  ·exact q
  ·have:=Z_pos (eOf x+1074).toNat;omega
theorem mOf_low {b:Nat}(h:b<4503599627370496):mOf b=b∧(eOf b+1074).toNat=0:=by
 unfold mOf eOf ex mt;have e:b/4503599627370496%2048=0:=(by omega);rw[if_pos e,if_pos e]
 constructor
 ·omega
 ·rfl
theorem mOf_high {K r:Nat}(hr:r<4503599627370496)(hK:K<2046):mOf ((K+1)*4503599627370496+r)=4503599627370496+r∧(eOf ((K+1)*4503599627370496+r)+1074).toNat=K:=by
 have e0:((K+1)*4503599627370496+r)/4503599627370496%2048=K+1:=(by omega);have e1:((K+1)*4503599627370496+r)%4503599627370496=r:=(by omega);unfold mOf eOf ex mt;rw[e0,if_neg (by omega),if_neg (by omega),e1]
 constructor
 ·omega
 ·omega
theorem hf_pred {b:Nat}(hb:b<INF)(h0:b≠0):hf (b-1)<2*mOf b*Z (eOf b+1074).toNat:=by
 rcases split52 b hb with c1|⟨K,r,rfl,hr,hK⟩
 ·obtain⟨e1,e2⟩:=mOf_low c1
  rw[hf_low (by omega),e1,e2,show Z 0=1 from rfl];omega
 ·obtain⟨e1,e2⟩:=mOf_high hr hK
  rw[e1,e2];by_cases r0:r=0
  ·subst r0
   rcases Nat.eq_zero_or_pos K with k0|k0
   ·subst k0
    rw[show (0+1)*4503599627370496+0-1=4503599627370495 from rfl,hf_low (by decide),show Z 0=1 from rfl];decide
   ·obtain⟨K',rfl⟩:∃K',K=K'+1:=⟨K-1,by omega⟩
    have e3:(K'+1+1)*4503599627370496+0-1=K'*4503599627370496+9007199254740991:=(by omega);rw[hf_at (K:=K') (k:=9007199254740991) e3 (by decide) (.inr (by decide)) (by omega),Z_succ,Nat.mul_left_comm _ 2,←Nat.mul_assoc];exact Nat.mul_lt_mul_of_pos_right (by omega) (Z_pos K')
  ·have e3:(K+1)*4503599627370496+r-1=K*4503599627370496+(4503599627370496+(r-1)):=by omega
   rw[hf_at (K:=K) (k:=4503599627370496+(r-1)) e3 (by omega) (.inr (by omega)) hK];exact Nat.mul_lt_mul_of_pos_right (by omega) (Z_pos K)
theorem rnd_exact {b n d:Nat}(hb:b<INF)(hd:0<d)(h:mOf b*Z (eOf b+1074).toNat * d=n*Z 1074):Rnd n d b:=by
 have e:n*Z 1075=2*mOf b*Z (eOf b+1074).toNat * d:=by
  rw[Z_succ 1074,Nat.mul_left_comm,←h,Nat.mul_assoc 2,Nat.mul_assoc 2]
 have hz:=Z_pos (eOf b+1074).toNat;refine⟨Nat.le_of_lt hb,?_,.inr (.inl ?_)⟩
 ·by_cases c:b=0
  ·exact .inl c
  ·right;left
   rw[e];exact Nat.mul_lt_mul_of_pos_right (hf_pred hb c) hd
 ·rw[e]
  apply Nat.mul_lt_mul_of_pos_right _ hd;rw[show hf b=(2*mOf b+1)*Z (eOf b+1074).toNat from rfl];exact Nat.mul_lt_mul_of_pos_right (by omega) hz
theorem Is.rnd {x m:Nat}(h:Is x m):Rnd m 1 x:=rnd_exact h.lt (by decide) (by rw[Nat.mul_one];exact h.e)
theorem Is.of_rnd {x b m:Nat}(h:Is x m)(k:Rnd m 1 b):b=x:=k.ext (by decide) h.rnd
theorem is_bits {l m:Nat}(hl:l≤52)(m1:4503599627370496≤m*2^(52-l))(m2:m*2^(52-l)<9007199254740992):Is ((1022+l)*4503599627370496+m*2^(52-l)) m:=by
 obtain⟨r,hr⟩:∃r,m*2^(52-l)=4503599627370496+r:=⟨m*2^(52-l)-4503599627370496,by omega⟩
 have e3:(1022+l)*4503599627370496+m*2^(52-l)=(1022+l+1)*4503599627370496+r:=(by omega);have hr2:r<4503599627370496:=(by omega);have hK:1022+l<2046:=(by omega);have hI:(1022+l+1)*4503599627370496+r<INF:=(by unfold INF;omega);obtain⟨e1,e2⟩:=mOf_high (K:=1022+l) (r:=r) hr2 hK;rw[e3];refine⟨hI,?_⟩;rw[e1,e2,←hr,show (2:Nat)^(52-l)=Z (52-l) from rfl,Nat.mul_assoc,Z_mul];exact congrArg (fun z=>m*Z z) (by omega)
theorem is_fl {m:Nat}(h0:0<m)(h:m<9007199254740992):Is (floatOfInt .f64 (m:Int)) m:=by
 have hn:floatOfInt .f64 (m:Int)=Ieee.double.nearest false m 0:=by
  show Ieee.double.nearest (decide ((m:Int)<0)) (m:Int).natAbs 0=_
  rw[decide_eq_false (by omega)];rfl
 have R:Rnd m 1 (floatOfInt .f64 (m:Int)):=by
  rw[hn];have:=nearest_rnd (mag:=m) (a:=0) (s:=0) (place:=0) (by omega) (by decide);exact Rnd.of_eq (Z_pos _) (by decide) (by unfold Z;simp) this
 obtain⟨l,hl1,hl2⟩:∃l,2^l≤m∧m<2^(l+1):=⟨m.log2,Nat.log2_self_le (by omega),Nat.lt_log2_self⟩
 have hl:l≤52:=by
  rcases Nat.lt_or_ge 52 l with c|c
  ·have:2^53≤2^l:=Nat.pow_le_pow_right (by decide) c
   omega
  ·exact c
 have e52:2^l*2^(52-l)=4503599627370496:=(by rw[←Nat.pow_add,show l+(52-l)=52 by omega]);have e53:2^(l+1)*2^(52-l)=9007199254740992:=(by rw[←Nat.pow_add,show l+1+(52-l)=53 by omega]);have hp:0<2^(52-l):=Nat.two_pow_pos _;have m1:4503599627370496≤m*2^(52-l):=(by rw[←e52];exact Nat.mul_le_mul_right _ hl1);have m2:m*2^(52-l)<9007199254740992:=(by rw[←e53];exact Nat.mul_lt_mul_of_pos_right hl2 hp);have I:Is ((1022+l)*4503599627370496+m*2^(52-l)) m:=is_bits hl m1 m2;rw[R.ext (by decide) I.rnd];exact I
theorem Is.mul {x y a c:Nat}(hx:Is x a)(hy:Is y c)(ha:a≠0)(hc:c≠0):∃b,floatBits .mul .f64 x y=some b∧Rnd (a*c) 1 b:=by
 have h1:mOf x≠0:=fun h=>ha (hx.zero.1 h)
 have h2:mOf y≠0:=fun h=>hc (hy.zero.1 h)
 obtain⟨b,hb,R⟩:=mul_rnd hx.lt hy.lt (Nat.mul_ne_zero h1 h2);refine⟨b,hb,Rnd.of_eq (Z_pos _) (by decide) ?_ R⟩;have e1:=hx.e;have e2:=hy.e;have g1:=eOf_ge x;have g2:=eOf_ge y;have e3:Z (eOf x+eOf y+2148).toNat=Z (eOf x+1074).toNat * Z (eOf y+1074).toNat:=(by rw[Z_mul];congr 1;omega);have e4:Z 2148=Z 1074*Z 1074:=(by rw[Z_mul]);rw[e3,e4,Nat.mul_one];generalize Z (eOf x+1074).toNat=u at *;generalize Z (eOf y+1074).toNat=v at *;generalize Z 1074=z at *;have:mOf x*mOf y*(u*v)=(mOf x*u)*(mOf y*v):=(by ac_rfl);rw[this,e1,e2];ac_rfl
theorem Is.div {x y a c:Nat}(hx:Is x a)(hy:Is y c)(ha:a≠0)(hc:c≠0):∃b,floatBits .quo .f64 x y=some b∧Rnd a c b:=by
 have h1:mOf x≠0:=fun h=>ha (hx.zero.1 h)
 have h2:mOf y≠0:=fun h=>hc (hy.zero.1 h)
 have g1:=eOf_ge x;have g2:=eOf_ge y;obtain⟨b,hb,R⟩:=div_rnd (a:=(eOf x+1074).toNat) (s:=(eOf y+1074).toNat) hx.lt hy.lt h1 h2 (by omega);refine⟨b,hb,Rnd.of_eq (Nat.mul_pos (by omega) (Z_pos _)) (by omega) ?_ R⟩;rw[hx.e,hy.e];generalize Z 1074=z at *
 ac_rfl
end FS
end Go.Proofs.YtieknenhfeejiaaGreatDoor
