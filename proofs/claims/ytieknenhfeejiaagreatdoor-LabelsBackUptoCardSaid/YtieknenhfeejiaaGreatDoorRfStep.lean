/- weirref02.Prefix: the automaton in plain words; it finds what num.Prefix find .. -/
import Derived.Test.YtieknenhfeejiaaGreatDoorPVal
set_option maxHeartbeats 1000000
set_option linter.unusedVariables false
set_option linter.unusedSimpArgs false
namespace Go.Proofs.YtieknenhfeejiaaGreatDoor
open _root_.Go.Proofs.Tryz
namespace PN
def rstep (a c:Nat):Option Nat:=
 if a=8∧(c=120∨c=88) then some 9
 else if a=9∨a=10 then(if hx c=true then some 10 else none)
 else if dg c=true then(if a=0 then(if c=48 then some 8 else some 1) else if a=1∨a=8 then some 1 else if a=2∨a=3∨a=4 then some 4 else some 7)
 else if c=46 then(if a=0 then some 3 else if a=1∨a=8 then some 2 else none)
 else if c=101∨c=69 then(if a=1∨a=8∨a=2∨a=4 then some 5 else none)
 else if c=43∨c=45 then(if a=5 then some 6 else none) else none
def rwh (a:Nat):Bool:=decide (a=1∨a=8∨a=2∨a=4∨a=7∨a=10)
def rp:List UInt8→Nat→Nat→Nat→Nat
 |[],a,n,i=>n
 |c::r,a,n,i=>match rstep a c.toNat with
  |none=>n
  |some b=>rp r b (if rwh b then i+1 else n) (i+1)
theorem rp_none {c:UInt8}{r:List UInt8}{a n i:Nat}(h:rstep a c.toNat=none):rp (c::r) a n i=n:=by simp only[rp,h]
theorem rp_some {c:UInt8}{r:List UInt8}{a b n i:Nat}(h:rstep a c.toNat=some b):rp (c::r) a n i=rp r b (if rwh b then i+1 else n) (i+1):=by simp only[rp,h]
theorem dg_iff' {c:Nat}:dg c=true↔48≤c∧c≤57:=by unfold dg;simp
theorem dg_no {c:Nat}:dg c=false↔¬ (48≤c∧c≤57):=by unfold dg;simp
theorem rp7:∀(l:List UInt8) (n i:Nat),rp l 7 n i=if spn dg l=0 then n else i+spn dg l
 |[],n,i=>rfl
 |c::r,n,i=>by
  cases h:dg c.toNat with
  |true=>
   have e:rstep 7 c.toNat=some 7:=(by unfold rstep;rw[if_neg (by omega),if_neg (by omega),if_pos h];rfl);rw[rp_some e,rp7 r,spn_yes h];show (if spn dg r=0 then i+1 else i+1+spn dg r)=if spn dg r+1=0 then n else i+(spn dg r+1)
   rw[if_neg (show ¬ spn dg r+1=0 by omega)];split<;>omega
  |false=>
   have e:rstep 7 c.toNat=none:=by
    unfold rstep;rw[if_neg (by omega),if_neg (by omega),if_neg (by rw[h];decide)];simp
   rw[rp_none e,spn_no h];rfl
theorem rp6:∀(l:List UInt8) (n i:Nat),rp l 6 n i=if spn dg l=0 then n else i+spn dg l
 |[],n,i=>rfl
 |c::r,n,i=>by
  cases h:dg c.toNat with
  |true=>
   have e:rstep 6 c.toNat=some 7:=(by unfold rstep;rw[if_neg (by omega),if_neg (by omega),if_pos h];rfl);rw[rp_some e,rp7 r,spn_yes h];show (if spn dg r=0 then i+1 else i+1+spn dg r)=if spn dg r+1=0 then n else i+(spn dg r+1)
   rw[if_neg (show ¬ spn dg r+1=0 by omega)];split<;>omega
  |false=>
   have e:rstep 6 c.toNat=none:=by
    unfold rstep;rw[if_neg (by omega),if_neg (by omega),if_neg (by rw[h];decide)];simp
   rw[rp_none e,spn_no h];rfl
theorem rp5 (l:List UInt8)(n i:Nat):rp l 5 n i=if spn dg (l.drop (sgl l))=0 then n else i+sgl l+spn dg (l.drop (sgl l)):=by
 cases l with
 |nil=>rfl
 |cons c r=>
  rw[sgl_cons];cases h:dg c.toNat with
  |true=>
   have h':=dg_iff'.1 h;have e:rstep 5 c.toNat=some 7:=(by unfold rstep;rw[if_neg (by omega),if_neg (by omega),if_pos h];rfl);rw[rp_some e,rp7 r,if_neg (show ¬ (c.toNat=43∨c.toNat=45) by omega),List.drop_zero,spn_yes h,if_neg (show ¬ spn dg r+1=0 by omega)];show (if spn dg r=0 then i+1 else i+1+spn dg r)=i+0+(spn dg r+1)
   split<;>omega
  |false=>
   have h':=dg_no.1 h;by_cases hs:c.toNat=43∨c.toNat=45
   ·have e:rstep 5 c.toNat=some 6:=by
     unfold rstep;rw[if_neg (by omega),if_neg (by omega),if_neg (by rw[h];decide),if_neg (by omega),if_neg (by omega),if_pos hs];rfl
    rw[rp_some e,rp6 r,if_pos hs];rfl
   ·have e:rstep 5 c.toNat=none:=by
     unfold rstep;rw[if_neg (by omega),if_neg (by omega),if_neg (by rw[h];decide)];simp[hs]
    rw[rp_none e,if_neg hs,List.drop_zero,spn_no h];rfl
theorem rpE {a:Nat}(ha:a=1∨a=8∨a=2∨a=4)(l:List UInt8)(i:Nat)(h:∀c r,l=c::r→dg c.toNat=false∧(c.toNat=46→a=2∨a=4)∧(a=8→c.toNat≠120∧c.toNat≠88)) :
  rp l a i i=i+exl l:=by
 cases l with
 |nil=>rfl
 |cons c r=>
  obtain⟨h1,h2,h3⟩:=h c r rfl;by_cases he:c.toNat=101∨c.toNat=69
  ·have e:rstep a c.toNat=some 5:=by
    unfold rstep;rw[if_neg (fun hh=>by have:=h3 hh.1;omega),if_neg (by omega),if_neg (by rw[h1];decide),if_neg (by omega),if_pos he,if_pos ha]
   rw[rp_some e,rp5,exl_cons,if_pos he];show (if spn dg (r.drop (sgl r))=0 then i else i+1+sgl r+spn dg (r.drop (sgl r)))=_
   by_cases hz:spn dg (r.drop (sgl r))=0
   ·rw[if_pos hz,if_neg (by omega)];rfl
   ·rw[if_neg hz,if_pos (by omega)];omega
  ·have e:rstep a c.toNat=none:=by
    unfold rstep;rw[if_neg (fun hh=>by have:=h3 hh.1;omega),if_neg (by omega),if_neg (by rw[h1];decide)];by_cases h46:c.toNat=46
    ·rw[if_pos h46,if_neg (by have:=h2 h46;omega),if_neg (by have:=h2 h46;omega)]
    ·rw[if_neg h46,if_neg he]
     split
     ·rw[if_neg (by omega)]
     ·rfl
   rw[rp_none e,exl_cons,if_neg he];rfl
theorem rp4:∀(l:List UInt8) (i:Nat),rp l 4 i i=i+spn dg l+exl (l.drop (spn dg l))
 |[],i=>rfl
 |c::r,i=>by
  cases h:dg c.toNat with
  |true=>
   have e:rstep 4 c.toNat=some 4:=(by unfold rstep;rw[if_neg (by omega),if_neg (by omega),if_pos h];rfl);rw[rp_some e,spn_yes h,List.drop_succ_cons];show rp r 4 (i+1) (i+1)=_
   rw[rp4 r];omega
  |false=>
   rw[spn_no h,List.drop_zero,rpE (by omega) (c::r) i fun c' r' e=>by injection e with e1 e2;rw[←e1];exact⟨h,fun _=>by omega,fun hh=>by omega⟩];rfl
theorem rp2 (l:List UInt8)(i:Nat):rp l 2 i i=i+spn dg l+exl (l.drop (spn dg l)):=by
 cases l with
 |nil=>rfl
 |cons c r=>
  cases h:dg c.toNat with
  |true=>
   have e:rstep 2 c.toNat=some 4:=(by unfold rstep;rw[if_neg (by omega),if_neg (by omega),if_pos h];rfl);rw[rp_some e,spn_yes h,List.drop_succ_cons];show rp r 4 (i+1) (i+1)=_
   rw[rp4 r];omega
  |false=>
   rw[spn_no h,List.drop_zero,rpE (by omega) (c::r) i fun c' r' e=>by injection e with e1 e2;rw[←e1];exact⟨h,fun _=>by omega,fun hh=>by omega⟩];rfl
theorem rp3 (l:List UInt8)(n i:Nat):rp l 3 n i=if spn dg l=0 then n else i+spn dg l+exl (l.drop (spn dg l)):=by
 cases l with
 |nil=>rfl
 |cons c r=>
  cases h:dg c.toNat with
  |true=>
   have e:rstep 3 c.toNat=some 4:=(by unfold rstep;rw[if_neg (by omega),if_neg (by omega),if_pos h];rfl);rw[rp_some e,spn_yes h,List.drop_succ_cons,if_neg (show ¬ spn dg r+1=0 by omega)];show rp r 4 (i+1) (i+1)=_
   rw[rp4 r];omega
  |false=>
   have e:rstep 3 c.toNat=none:=by
    unfold rstep;rw[if_neg (by omega),if_neg (by omega),if_neg (by rw[h];decide)];simp
   rw[rp_none e,spn_no h];rfl
def body (l:List UInt8):Nat:=
 if hd46 (l.drop (spn dg l)) then spn dg l+1+spn dg (l.drop (spn dg l+1))+exl (l.drop (spn dg l+1+spn dg (l.drop (spn dg l+1)))) else spn dg l+exl (l.drop (spn dg l))
theorem body_stop {a:Nat}(ha:a=1∨a=8)(l:List UInt8)(i:Nat)(h:spn dg l=0)(hx':a=8→∀c r,l=c::r→c.toNat≠120∧c.toNat≠88):rp l a i i=i+body l:=by
 unfold body;rw[h,List.drop_zero];cases l with
 |nil=>rcases ha with rfl|rfl<;>rfl
 |cons c r=>
  have hd:dg c.toNat=false:=by
   cases hh:dg c.toNat with
   |false=>rfl
   |true=>rw[spn_yes hh]at h;omega
  by_cases h46:c.toNat=46
  ·have e:rstep a c.toNat=some 2:=by
    unfold rstep;rw[if_neg (by omega),if_neg (by omega),if_neg (by rw[hd];decide),if_pos h46,if_neg (by omega),if_pos ha]
   rw[rp_some e];show rp r 2 (i+1) (i+1)=i+(if decide (c.toNat=46)=true then _ else _)
   rw[rp2 r,if_pos (by simp[h46])];show i+1+spn dg r+exl (r.drop (spn dg r))=i+(0+1+spn dg r+exl ((c::r).drop (0+1+spn dg r)))
   rw[show 0+1+spn dg r=spn dg r+1 by omega,List.drop_succ_cons];omega
  ·show _=i+(if decide (c.toNat=46)=true then _ else _)
   rw[if_neg (by simp[h46])];rw[rpE (by omega) (c::r) i fun c' r' e=>by injection e with e1 e2;rw[←e1];exact⟨hd,fun hh=>absurd hh h46,fun hh=>hx' hh c r rfl⟩];omega
theorem body_step {c:UInt8}{r:List UInt8}(h:dg c.toNat=true):body (c::r)=body r+1:=by
 unfold body;rw[spn_yes h,List.drop_succ_cons];split
 ·rw[List.drop_succ_cons,show spn dg r+1+1+spn dg (r.drop (spn dg r+1))=(spn dg r+1+spn dg (r.drop (spn dg r+1)))+1 by omega,List.drop_succ_cons];omega
 ·omega
theorem rp1:∀(l:List UInt8) (i:Nat),rp l 1 i i=i+body l
 |[],i=>rfl
 |c::r,i=>by
  cases h:dg c.toNat with
  |true=>
   have e:rstep 1 c.toNat=some 1:=(by unfold rstep;rw[if_neg (by omega),if_neg (by omega),if_pos h];rfl);rw[rp_some e,body_step h];show rp r 1 (i+1) (i+1)=_
   rw[rp1 r];omega
  |false=>exact body_stop (.inl rfl) (c::r) i (spn_no h) (fun hh=>by omega)
theorem rpA:∀(l:List UInt8) (i:Nat),rp l 10 i i=i+spn hx l
 |[],i=>rfl
 |c::r,i=>by
  cases h:hx c.toNat with
  |true=>
   have e:rstep 10 c.toNat=some 10:=(by unfold rstep;rw[if_neg (by omega),if_pos (by omega),if_pos h]);rw[rp_some e,spn_yes h];show rp r 10 (i+1) (i+1)=_
   rw[rpA r];omega
  |false=>
   have e:rstep 10 c.toNat=none:=(by unfold rstep;rw[if_neg (by omega),if_pos (by omega),if_neg (by rw[h];decide)]);rw[rp_none e,spn_no h];rfl
theorem rp9 (l:List UInt8)(n i:Nat):rp l 9 n i=if spn hx l=0 then n else i+spn hx l:=by
 cases l with
 |nil=>rfl
 |cons c r=>
  cases h:hx c.toNat with
  |true=>
   have e:rstep 9 c.toNat=some 10:=(by unfold rstep;rw[if_neg (by omega),if_pos (by omega),if_pos h]);rw[rp_some e,spn_yes h,if_neg (show ¬ spn hx r+1=0 by omega)];show rp r 10 (i+1) (i+1)=_
   rw[rpA r];omega
  |false=>
   have e:rstep 9 c.toNat=none:=(by unfold rstep;rw[if_neg (by omega),if_pos (by omega),if_neg (by rw[h];decide)]);rw[rp_none e,spn_no h];rfl
theorem rp8 (l:List UInt8)(i:Nat):rp l 8 i i=match l with
  |c::r=>if c.toNat=120∨c.toNat=88 then(if spn hx r=0 then i else i+1+spn hx r) else i+body (c::r)
  |[]=>i:=by
 cases l with
 |nil=>rfl
 |cons c r=>
  show _=if c.toNat=120∨c.toNat=88 then(if spn hx r=0 then i else i+1+spn hx r) else i+body (c::r)
  by_cases hx':c.toNat=120∨c.toNat=88
  ·have e:rstep 8 c.toNat=some 9:=by unfold rstep;rw[if_pos ⟨rfl,hx'⟩]
   rw[rp_some e,if_pos hx'];exact rp9 r _ _
  ·rw[if_neg hx']
   cases h:dg c.toNat with
   |true=>
    have e:rstep 8 c.toNat=some 1:=(by unfold rstep;rw[if_neg (fun hh=>hx' hh.2),if_neg (by omega),if_pos h];rfl);rw[rp_some e,body_step h];show rp r 1 (i+1) (i+1)=_
    rw[rp1 r];omega
   |false=>exact body_stop (.inr rfl) (c::r) i (spn_no h) (fun _ c' r' e=>by injection e with e1 e2;rw[←e1];omega)
theorem mant_body {l:List UInt8}(h:0<spn dg l):mant l≠0∧mant l+exl (l.drop (mant l))=body l:=by
 unfold mant body;rw[if_pos h];split
 ·exact⟨by omega,rfl⟩
 ·exact⟨by omega,rfl⟩
theorem rp_pfx (l:List UInt8):rp l 0 0 0=pfx l:=by
 cases l with
 |nil=>rfl
 |cons c r=>
  cases h:dg c.toNat with
  |true=>
   have hp:0<spn dg (c::r):=(by rw[spn_yes h];omega);obtain⟨m0,mb⟩:=mant_body hp;by_cases h48:c.toNat=48
   ·have e:rstep 0 c.toNat=some 8:=by unfold rstep;rw[if_neg (by omega),if_neg (by omega),if_pos h,if_pos rfl,if_pos h48]
    rw[rp_some e];show rp r 8 1 1=_
    rw[rp8];unfold pfx;rw[if_neg m0,mb,body_step h];cases r with
    |nil=>rfl
    |cons d r=>
     show (if d.toNat=120∨d.toNat=88 then(if spn hx r=0 then 1 else 1+1+spn hx r) else 1+body (d::r))=_
     by_cases hd':d.toNat=120∨d.toNat=88
     ·rw[if_pos hd']
      cases r with
      |nil=>
       show 1=body [d]+1
       unfold body;have hdd:dg d.toNat=false:=(by rw[dg_no];omega);rw[spn_no hdd,List.drop_zero];have h46:hd46 [d]=false:=(by unfold hd46;simp;omega);rw[h46,if_neg (by decide),exl_cons,if_neg (by omega)]
      |cons f r=>
       cases hf:hx f.toNat with
       |true=>
        have:hexHead (c::d::f::r)=true:=(by unfold hexHead;simp[h48,hd',hf]);rw[if_pos this,spn_yes hf,if_neg (show ¬ spn hx r+1=0 by omega)];show _=2+spn hx (f::r)
        rw[spn_yes hf]
       |false=>
        have:hexHead (c::d::f::r)=false:=(by unfold hexHead;simp[hf]);rw[this,if_neg Bool.false_ne_true,spn_no hf,if_pos rfl];unfold body;have hdd:dg d.toNat=false:=(by rw[dg_no];omega);rw[spn_no hdd,List.drop_zero];have h46:hd46 (d::f::r)=false:=(by unfold hd46;simp;omega);rw[h46,if_neg (by decide),exl_cons,if_neg (by omega)]
     ·rw[if_neg hd']
      have:hexHead (c::d::r)=false:=by
       cases r with
       |nil=>rfl
       |cons f r=>unfold hexHead;simp;intro _ hh;omega
      rw[this,if_neg (by decide)];omega
   ·have e:rstep 0 c.toNat=some 1:=by unfold rstep;rw[if_neg (by omega),if_neg (by omega),if_pos h,if_pos rfl,if_neg h48]
    rw[rp_some e];show rp r 1 1 1=_
    rw[rp1];unfold pfx;have:hexHead (c::r)=false:=by
     cases r with
     |nil=>rfl
     |cons d r=>cases r with
      |nil=>rfl
      |cons f r=>unfold hexHead;simp;intro hh;omega
    rw[this,if_neg (by decide),if_neg m0,mb,body_step h];omega
  |false=>
   have h':=dg_no.1 h;have hh:hexHead (c::r)=false:=by
    cases r with
    |nil=>rfl
    |cons d r=>cases r with
     |nil=>rfl
     |cons f r=>unfold hexHead;simp;intro hh;omega
   unfold pfx;rw[hh,if_neg (by decide)];unfold mant;rw[spn_no h,if_neg (show ¬ 0<0 by decide)];by_cases h46:c.toNat=46
   ·have e:rstep 0 c.toNat=some 3:=by unfold rstep;rw[if_neg (by omega),if_neg (by omega),if_neg (by rw[h];decide),if_pos h46,if_pos rfl]
    rw[rp_some e];show rp r 3 0 1=_
    rw[rp3];cases r with
    |nil=>rfl
    |cons d r=>
     cases hd':dg d.toNat with
     |true=>
      have hp:ptHead (c::d::r)=true:=(by unfold ptHead;simp[h46,hd']);rw[hp,if_pos rfl,if_neg (show ¬ spn dg (d::r)=0 by rw[spn_yes hd'];omega)];show _=if 1+spn dg (d::r)=0 then 0 else 1+spn dg (d::r)+exl ((c::d::r).drop (1+spn dg (d::r)))
      rw[if_neg (show ¬ 1+spn dg (d::r)=0 by omega),show 1+spn dg (d::r)=spn dg (d::r)+1 by omega,List.drop_succ_cons]
     |false=>
      have hp:ptHead (c::d::r)=false:=(by unfold ptHead;simp[hd']);rw[hp,spn_no hd'];rfl
   ·have e:rstep 0 c.toNat=none:=by
     unfold rstep;rw[if_neg (by omega),if_neg (by omega),if_neg (by rw[h];decide),if_neg h46];simp
    have hp:ptHead (c::r)=false:=by
     cases r with
     |nil=>rfl
     |cons d r=>unfold ptHead;simp[h46]
    rw[rp_none e,hp];rfl
end PN
namespace PF
def hv (c:Nat):Nat:=if c≤57 then c-48 else if c≤70 then c-55 else c-87
theorem hx_iff {c:Nat}:PN.hx c=true↔(48≤c∧c≤57)∨(97≤c∧c≤102)∨(65≤c∧c≤70):=by unfold PN.hx;simp
theorem hv_lt {c:Nat}(h:PN.hx c=true):hv c<16:=by
 rw[hx_iff]at h;unfold hv;split
 ·omega
 ·split<;>omega
theorem hv_zero {c:Nat}(h:PN.hx c=true):hv c=0↔c=48:=by
 rw[hx_iff]at h;unfold hv;split
 ·omega
 ·split<;>omega
def hval:List UInt8→Nat→Nat
 |[],N=>N
 |c::l,N=>hval l (N*16+hv c.toNat)
theorem hval_app:∀(a b:List UInt8) (N:Nat),hval (a++b) N=hval b (hval a N)
 |[],b,N=>rfl
 |c::a,b,N=>hval_app a b _
structure HS where
 m:Nat
 nd:Nat
 nm:Nat
 dp:Int
 sg:Bool
 tr:Bool
def hs0:HS:=⟨0,0,0,0,false,false⟩
def hstep (q:HS)(c:Nat):HS:=
 if c=48∧q.nd=0 then { q with sg:=true,dp:=q.dp-1 }
 else if q.nm<16 then ⟨q.m*16+hv c,q.nd+1,q.nm+1,q.dp,true,q.tr⟩
 else ⟨q.m,q.nd+1,q.nm,q.dp,true,q.tr ||decide (c≠48)⟩
structure HInv (q:HS)(N k:Nat):Prop where
 hi:N<16^q.nd
 lo:0<q.nd→16^(q.nd-1)≤N
 nm:q.nm=min q.nd 16
 m:q.m=N/16^(q.nd-q.nm)
 tr:q.tr=decide (N%16^(q.nd-q.nm)≠0)
 nd:q.nd≤k
 dl : -(k:Int)≤q.dp
 du:q.dp≤0
 sg:0<k→q.sg=true
theorem HInv.start:HInv hs0 0 0:=⟨by decide,fun h=>absurd h (by decide),rfl,rfl,rfl,Nat.le_refl _,by decide,by decide,fun h=>absurd h (by decide)⟩
theorem HInv.step {q:HS}{N k c:Nat}(I:HInv q N k)(hc:PN.hx c=true):HInv (hstep q c) (N*16+hv c) (k+1):=by
 obtain⟨hi,lo,nm,hm,tr,hnd,dl,du,sg⟩:=I;have h16:=hv_lt hc;have h0:=hv_zero hc;unfold hstep;split
 ·rename_i hz
  obtain⟨c0,hz0⟩:=hz;have hN:N=0:=(by rw[hz0]at hi;simpa using hi);have e:N*16+hv c=N:=(by rw[hN,h0.2 c0]);rw[e];exact⟨hi,lo,nm,hm,tr,by show q.nd≤k+1;omega,by show -((k+1:Nat):Int)≤q.dp-1;omega,by show q.dp-1≤0;omega,fun _=>rfl⟩
 ·rename_i hz
  have hhi:N*16+hv c<16^(q.nd+1):=(by rw[Nat.pow_succ];omega);have hlo:16^(q.nd+1-1)≤N*16+hv c:=by
   rw[Nat.add_sub_cancel];rcases Nat.eq_zero_or_pos q.nd with e|e
   ·rw[e]
    have:c≠48:=fun h=>hz ⟨h,e⟩
    have:hv c≠0:=fun h=>this (h0.1 h)
    simp;omega
   ·have:=lo e
    have e2:16^q.nd=16^(q.nd-1)*16:=(by rw[←Nat.pow_succ];congr 1;omega);omega
  split
  ·rename_i hnm
   have e0:q.nd-q.nm=0:=(by omega);have e1:q.nd+1-(q.nm+1)=0:=(by omega);rw[e0,Nat.pow_zero,Nat.div_one]at hm;rw[e0,Nat.pow_zero,Nat.mod_one]at tr;refine⟨hhi,fun _=>hlo,?_,?_,?_,by show q.nd+1≤k+1;omega,by show -((k+1:Nat):Int)≤q.dp;omega,du,fun _=>rfl⟩
   ·show q.nm+1=min (q.nd+1) 16;omega
   ·show q.m*16+hv c=(N*16+hv c)/16^(q.nd+1-(q.nm+1))
    rw[e1,Nat.pow_zero,Nat.div_one,hm]
   ·show q.tr=decide ((N*16+hv c)%16^(q.nd+1-(q.nm+1))≠0)
    rw[e1,Nat.pow_zero,Nat.mod_one,tr]
  ·rename_i hnm
   obtain⟨j,hj⟩:∃j,q.nd-q.nm=j:=⟨_,rfl⟩
   have e1:q.nd+1-q.nm=j+1:=(by omega);rw[hj]at hm tr;have hp:0<16^j:=Nat.pow_pos (by decide);have em:(N*16+hv c)/16^(j+1)=N/16^j:=by
    rw[Nat.pow_succ,Nat.mul_comm (16^j) 16,←Nat.div_div_eq_div_mul,show (N*16+hv c)/16=N by omega]
   have er:(N*16+hv c)%16^(j+1)=N%16^j*16+hv c:=by
    have h1:=Nat.div_add_mod (N*16+hv c) (16^(j+1));have h2:=Nat.div_add_mod N (16^j);rw[em]at h1;have e3:16^(j+1)*(N/16^j)=16*(16^j*(N/16^j)):=(by rw[Nat.pow_succ,Nat.mul_comm (16^j) 16,Nat.mul_assoc]);omega
   refine⟨hhi,fun _=>hlo,?_,?_,?_,by show q.nd+1≤k+1;omega,by show -((k+1:Nat):Int)≤q.dp;omega,du,fun _=>rfl⟩
   ·show q.nm=min (q.nd+1) 16;omega
   ·show q.m=(N*16+hv c)/16^(q.nd+1-q.nm)
    rw[e1,em,hm]
   ·show (q.tr ||decide (c≠48))=decide ((N*16+hv c)%16^(q.nd+1-q.nm)≠0)
    rw[e1,er,tr,←Bool.decide_or];apply decide_eq_decide.2
    constructor
    ·rintro (h|h)
     ·omega
     ·have:hv c≠0:=fun h'=>h (h0.1 h')
      omega
    ·intro h
     by_cases hh:N%16^j=0
     ·right
      intro h';have:=h0.2 h';omega
     ·exact .inl hh
structure HArg (N m j:Nat)(tr:Bool):Prop where
 r:∃r,N=m*16^j+r∧r<16^j∧tr=decide (r≠0)
 ml:m<18446744073709551616
 jl:j=0∨1152921504606846976≤m
 zl:m=0→N=0
theorem HInv.arg {q:HS}{N k:Nat}(I:HInv q N k):HArg N q.m (q.nd-q.nm) q.tr:=by
 obtain⟨hi,lo,nm,hm,tr,hnd,dl,du,sg⟩:=I;have hp:0<16^(q.nd-q.nm):=Nat.pow_pos (by decide);refine⟨⟨N%16^(q.nd-q.nm),?_,Nat.mod_lt _ hp,tr⟩,?_,?_,?_⟩
 ·rw[hm,Nat.mul_comm];exact(Nat.div_add_mod _ _).symm
 ·rw[hm]
  apply Nat.div_lt_of_lt_mul;refine Nat.lt_of_lt_of_le hi ?_;rw[show (18446744073709551616:Nat)=16^16 by decide,←Nat.pow_add];exact Nat.pow_le_pow_right (by decide) (by omega)
 ·rcases Nat.eq_zero_or_pos (q.nd-q.nm) with e|e
  ·exact .inl e
  ·right
   have e16:q.nm=16:=(by omega);rw[hm,e16,Nat.le_div_iff_mul_le (Nat.pow_pos (by decide)),show (1152921504606846976:Nat)=16^15 by decide,←Nat.pow_add];have:=lo (by omega);rw[show 15+(q.nd-16)=q.nd-1 by omega];exact this
 ·intro h0
  rcases Nat.eq_zero_or_pos q.nd with e|e
  ·rw[e]at hi;simpa using hi
  ·exfalso
   have:=lo e;have h1:1≤q.m:=by
    rw[hm,Nat.le_div_iff_mul_le hp,Nat.one_mul];exact Nat.le_trans (Nat.pow_le_pow_right (by decide) (by omega)) this
   omega
end PF
namespace FS
open PF
theorem hexq_of {N m j s:Nat}{tr:Bool}(A:HArg N m j tr)(hs:s=0∨(j=0))(hs2:s≤1000) :
  Q4 (if tr then(m*2^s) |||1 else m*2^s) (N*Z 1074) (1*Z (1076+4*j-s)):=by
 obtain⟨r,hN,hr,htr⟩:=A.r;have e4:4*(N*Z 1074)=N*Z 1076:=(by unfold Z;omega);have e16:(16:Nat)^j=Z (4*j):=(by unfold Z;rw[Nat.pow_mul]);have hz:=Z_pos 1076;have split:∀a b:Nat,Z (a+b)=Z a*Z b:=fun a b=>by unfold Z;exact Nat.pow_add ..
 unfold Q4;rw[e4,Nat.one_mul];by_cases s0:s=0
 ·subst s0
  rw[Nat.pow_zero,Nat.mul_one,Nat.sub_zero,split,←e16];cases tr with
  |false=>
   have:r=0:=(by simpa using htr.symm);subst this;rw[Nat.add_zero]at hN;rw[if_neg (by decide),hN];have e:m*16^j*Z 1076=m*(Z 1076*16^j):=(by rw[Nat.mul_assoc,Nat.mul_comm (16^j)]);rw[e];refine⟨fun _=>rfl,fun h=>?_⟩;have hp:0<Z 1076*16^j:=Nat.mul_pos hz (Nat.pow_pos (by decide));exact⟨Nat.mul_lt_mul_of_pos_right (by omega) hp,Nat.mul_lt_mul_of_pos_right (by omega) hp⟩
  |true=>
   have hr0:0<r:=by
    have:r≠0:=(by simpa using htr.symm);omega
   rw[if_pos rfl];have hlo:m*(Z 1076*16^j)<N*Z 1076:=by
    rw[show m*(Z 1076*16^j)=(m*16^j)*Z 1076 by rw[Nat.mul_assoc,Nat.mul_comm (16^j)]];exact Nat.mul_lt_mul_of_pos_right (by omega) hz
   have hhi:N*Z 1076<(m+1)*(Z 1076*16^j):=by
    rw[show (m+1)*(Z 1076*16^j)=((m+1)*16^j)*Z 1076 by rw[Nat.mul_assoc,Nat.mul_comm (16^j)]];refine Nat.mul_lt_mul_of_pos_right ?_ hz;rw[Nat.add_mul];omega
   rw[or_one];split
   ·refine⟨fun h=>by omega,fun _=>?_⟩
    refine⟨by rw[Nat.add_sub_cancel];exact hlo,Nat.lt_of_lt_of_le hhi (Nat.mul_le_mul_right _ (by omega))⟩
   ·refine⟨fun h=>by omega,fun _=>?_⟩
    exact⟨Nat.lt_of_le_of_lt (Nat.mul_le_mul_right _ (by omega)) hlo,hhi⟩
 ·have j0:=hs.resolve_left s0
  subst j0;rw[Nat.pow_zero]at hr hN;have r0:r=0:=(by omega);subst r0;have:tr=false:=(by rw[htr];rfl);subst this;rw[if_neg (by decide)];have hN:N=m:=(by omega);rw[hN,Nat.mul_zero,Nat.add_zero];have e:m*Z 1076=m*2^s*Z (1076-s):=by
   rw[show (1076:Nat)=s+(1076-s) by omega,split,←Nat.mul_assoc,show s+(1076-s)-s=1076-s by omega];rfl
  rw[e];refine⟨fun _=>rfl,fun h=>?_⟩;have hp:=Z_pos (1076-s);exact⟨Nat.mul_lt_mul_of_pos_right (by omega) hp,Nat.mul_lt_mul_of_pos_right (by omega) hp⟩
theorem q4_half {u s K:Nat}(h:Q4 u s (1*Z K)):Q4 (u/2 |||u%2) s (1*Z (K+1)):=by
 obtain⟨h0,h1⟩:=h;rw[or_low];have e:1*Z (K+1)=2*(1*Z K):=(by rw[Z_succ,Nat.one_mul,Nat.one_mul]);rw[e];have t0:0<1*Z K:=Nat.mul_pos (by decide) (Z_pos K);generalize 1*Z K=t at *;have d2:∀a,a*(2*t)=2*a*t:=fun a=>by rw[←Nat.mul_assoc,Nat.mul_comm a 2]
 unfold Q4;rcases Nat.mod_two_eq_zero_or_one u with c|c
 ·rw[if_neg (by omega)]
  have:=h0 c;have e:u*t=u/2*(2*t):=(by rw[d2];congr 1;omega);rw[this,e];exact⟨fun _=>rfl,fun h=>⟨Nat.mul_lt_mul_of_pos_right (by omega) (by omega),Nat.mul_lt_mul_of_pos_right (by omega) (by omega)⟩⟩
 ·obtain⟨a,b⟩:=h1 c
  split
  ·refine⟨fun h=>by omega,fun _=>?_⟩
   rw[d2,d2];exact⟨Nat.lt_of_le_of_lt (Nat.mul_le_mul_right _ (by omega)) a,Nat.lt_of_lt_of_le b (Nat.mul_le_mul_right _ (by omega))⟩
  ·refine⟨fun h=>by omega,fun _=>?_⟩
   rw[d2,d2];exact⟨Nat.lt_of_le_of_lt (Nat.mul_le_mul_right _ (by omega)) a,Nat.lt_of_lt_of_le b (Nat.mul_le_mul_right _ (by omega))⟩
theorem hex_rnd {N u K k:Nat}(h:Q4 u (N*Z 1074) (1*Z K))(h1:18014398509481984≤u)(h2:u<36028797018963968)(hk:k=(u+1+u/4%2)/4) :
  Rnd N 1 (min (K*4503599627370496+k) INF):=by
 obtain⟨a,b⟩:=h;have ht:0<1*Z K:=Nat.mul_pos (by decide) (Z_pos K);refine q4_rnd0 (u:=u) (by decide) a b hk (by omega) (.inr ?_) ?_
 ·rcases Nat.mod_two_eq_zero_or_one u with c|c
  ·rw[a c];exact Nat.mul_le_mul_right _ h1
  ·exact Nat.le_trans (Nat.mul_le_mul_right _ (by omega)) (Nat.le_of_lt (b c).1)
 ·rcases Nat.mod_two_eq_zero_or_one u with c|c
  ·rw[a c];exact Nat.mul_lt_mul_of_pos_right h2 ht
  ·exact Nat.lt_of_lt_of_le (b c).2 (Nat.mul_le_mul_right _ (by omega))
end FS
theorem pval_hex {N b:Nat}(h:0<N)(R:FS.Rnd N 1 b):PVal N 0 b:=.inr ⟨h,R.of_eq (by decide) (FS.X_pos _) (by unfold FS.vN FS.vD FS.X;simp)⟩
end Go.Proofs.YtieknenhfeejiaaGreatDoor
namespace Go.Proofs.YtieknenhfeejiaaGreatDoor
open _root_.Go.Proofs.Tryz
open Go.RowKit
theorem rfdigit_any (c:Nat)(w:World)(h:c<256) :
  Calls prog 154 #[.int .u8 c] w fun e w'=>e=.returned (.bool (PN.dg c))∧w=w':=by
 by_cases h1:48≤c∧c≤57
 ·have G:Hd (PN.dg c=true):=hd <|by unfold PN.dg;simp[h1]
  obtain⟨a1,a2⟩:=h1;go_enter func154,ntmps154;go_wp2;go_ret;exact⟨ret_bool (by first|exact G.o.symm|(rw[G.o];simp;omega)),rfl⟩
 ·have G:Hd (PN.dg c=false):=hd <|by unfold PN.dg;simp[h1]
  go_enter func154,ntmps154;go_wp2
  all_goals first|(exfalso;omega)|(go_ret;exact⟨ret_bool (by first|exact G.o.symm|(rw[G.o];simp;omega)),rfl⟩)
def PN.hI (c:Nat):Int:=if PN.hx c=true then(PF.hv c:Int) else -1
theorem PN.hI_pos {c:Nat}:(0≤PN.hI c)↔PN.hx c=true:=by
 unfold PN.hI;by_cases h:PN.hx c=true
 ·rw[if_pos h];simp[h]
 ·rw[if_neg h];simp[h]
theorem rfhex_any (c:Nat)(w:World)(h:c<256) :
  Calls prog 153 #[.int .u8 c] w fun e w'=>e=.returned (.int .i64 (PN.hI c))∧w=w':=by
 cases hdc:PN.dg c with
 |true=>
  have V:=hd hdc;have a:=PN.dg_iff'.1 hdc;have G:Hd (PN.hI c=(c:Int)-48):=hd <|by
   unfold PN.hI;rw[if_pos (PF.hx_iff.2 (.inl a))];unfold PF.hv;rw[if_pos a.2];omega
  obtain⟨b1,b2⟩:=a;clear hdc;go_enter func153,ntmps153;go_wp2_with (go_at_call 154;refine(rfdigit_any _ _ h).mono ?_;rintro e w' ⟨rfl,rfl⟩;rw[V.o])
  go_ret;exact⟨ret_int (by rw[G.o]),rfl⟩
 |false=>
  have V:=hd hdc;have a:=PN.dg_no.1 hdc;clear hdc;by_cases a1:97≤c∧c≤102
  ·have G:Hd (PN.hI c=(c:Int)-87):=hd <|by
    unfold PN.hI;rw[if_pos (PF.hx_iff.2 (.inr (.inl a1)))];unfold PF.hv;rw[if_neg (by omega),if_neg (by omega)];omega
   obtain⟨b1,b2⟩:=a1;clear a;go_enter func153,ntmps153;go_wp2_with (go_at_call 154;refine(rfdigit_any _ _ h).mono ?_;rintro e w' ⟨rfl,rfl⟩;rw[V.o])
   go_ret;exact⟨ret_int (by rw[G.o];omega),rfl⟩
  ·by_cases a2:65≤c∧c≤70
   ·have G:Hd (PN.hI c=(c:Int)-55):=hd <|by
     unfold PN.hI;rw[if_pos (PF.hx_iff.2 (.inr (.inr a2)))];unfold PF.hv;rw[if_neg (by omega),if_pos a2.2];omega
    obtain⟨b1,b2⟩:=a2;clear a a1;go_enter func153,ntmps153;go_wp2_with (go_at_call 154;refine(rfdigit_any _ _ h).mono ?_;rintro e w' ⟨rfl,rfl⟩;rw[V.o])
    go_ret;exact⟨ret_int (by rw[G.o];omega),rfl⟩
   ·have G:Hd (PN.hI c = -1):=hd <|by
     unfold PN.hI;rw[if_neg (fun hh=>by have:=PF.hx_iff.1 hh;omega)]
    clear a;go_enter func153,ntmps153;go_wp2_with (go_at_call 154;refine(rfdigit_any _ _ h).mono ?_;rintro e w' ⟨rfl,rfl⟩;rw[V.o])
    all_goals first|(exfalso;omega)|(go_ret;exact⟨ret_int (by rw[G.o]),rfl⟩)
def PN.stI:Option Nat→Int
 |none=>-1
 |some b=>b
theorem rfstep_c48 (a c:Nat)(w:World)(ha:a≤10)(h:c<256)(hk:c=48) :
  Calls prog 124 #[.int .i64 (a:Int),.int .u8 c] w fun e w'=>e=.returned (.int .i64 (PN.stI (PN.rstep a c)))∧w=w':=by
 have t48:((c:Int)==48)=true:=(by rw[beq_iff_eq];omega);have t120:((c:Int)==120)=false:=(by rw[bf];omega);have t88:((c:Int)==88)=false:=(by rw[bf];omega);have t46:((c:Int)==46)=false:=(by rw[bf];omega);have t101:((c:Int)==101)=false:=(by rw[bf];omega);have t69:((c:Int)==69)=false:=(by rw[bf];omega);have t43:((c:Int)==43)=false:=(by rw[bf];omega);have t45:((c:Int)==45)=false:=(by rw[bf];omega);have V:Hd (PN.dg c=true):=hd (by rw[PN.dg_iff'];omega);have HK:=hd (PF.hx_iff (c:=c))
 have HC:=hd hk;cases hh:PN.hx c with
 |true=>
  have VH:=hd hh;have HG:Hd (∀a,PN.stI (PN.rstep a c)=PN.stI (PN.rstep a c)):=hd fun _=>rfl
  have hp:=PN.hI_pos (c:=c);rw[hh]at hp;have hp2:(0≤PN.hI c)=True:=(by simp[hp]);have hlo : -1≤PN.hI c:=(by unfold PN.hI;split<;>omega);clear hp hh HG;have HI:=hd (rfhex_any c w h);generalize PN.hI c=z at *;rcases (show a=0∨a=1∨a=2∨a=3∨a=4∨a=5∨a=6∨a=7∨a=8∨a=9∨a=10 by omega) with rfl|rfl|rfl|rfl|rfl|rfl|rfl|rfl|rfl|rfl|rfl
  all_goals
   clear ha hk;go_enter func124,ntmps124;go_wp2_with (first|(go_at_call 154;refine(rfdigit_any _ _ h).mono ?_;rintro e w' ⟨rfl,rfl⟩;rw[V.o])|(go_at_call 153;(with_reducible refine HI.o.mono ?_);rintro e w' ⟨rfl,rfl⟩))
   go_ret;refine⟨ret_int ?_,rfl⟩;have v1:=V.o;have v2:=VH.o;have v3:=HC.o;subst v3;simp[PN.rstep,PN.stI,v1,v2]
 |false=>
  have VH:=hd hh;have HG:Hd (∀a,PN.stI (PN.rstep a c)=PN.stI (PN.rstep a c)):=hd fun _=>rfl
  have hp:=PN.hI_pos (c:=c);rw[hh]at hp;have hp2:(0≤PN.hI c)=False:=(by simp only[hp];simp);have hlo : -1≤PN.hI c:=(by unfold PN.hI;split<;>omega);clear hp hh HG;have HI:=hd (rfhex_any c w h);generalize PN.hI c=z at *;rcases (show a=0∨a=1∨a=2∨a=3∨a=4∨a=5∨a=6∨a=7∨a=8∨a=9∨a=10 by omega) with rfl|rfl|rfl|rfl|rfl|rfl|rfl|rfl|rfl|rfl|rfl
  all_goals
   clear ha hk;go_enter func124,ntmps124;go_wp2_with (first|(go_at_call 154;refine(rfdigit_any _ _ h).mono ?_;rintro e w' ⟨rfl,rfl⟩;rw[V.o])|(go_at_call 153;(with_reducible refine HI.o.mono ?_);rintro e w' ⟨rfl,rfl⟩))
   go_ret;refine⟨ret_int ?_,rfl⟩;have v1:=V.o;have v2:=VH.o;have v3:=HC.o;subst v3;simp[PN.rstep,PN.stI,v1,v2]
theorem rfstep_c120 (a c:Nat)(w:World)(ha:a≤10)(h:c<256)(hk:c=120) :
  Calls prog 124 #[.int .i64 (a:Int),.int .u8 c] w fun e w'=>e=.returned (.int .i64 (PN.stI (PN.rstep a c)))∧w=w':=by
 have t48:((c:Int)==48)=false:=(by rw[bf];omega);have t120:((c:Int)==120)=true:=(by rw[beq_iff_eq];omega);have t88:((c:Int)==88)=false:=(by rw[bf];omega);have t46:((c:Int)==46)=false:=(by rw[bf];omega);have t101:((c:Int)==101)=false:=(by rw[bf];omega);have t69:((c:Int)==69)=false:=(by rw[bf];omega);have t43:((c:Int)==43)=false:=(by rw[bf];omega);have t45:((c:Int)==45)=false:=(by rw[bf];omega);have V:Hd (PN.dg c=false):=hd (by rw[PN.dg_no];omega);have HK:=hd (PF.hx_iff (c:=c))
 have HC:=hd hk;cases hh:PN.hx c with
 |true=>
  have VH:=hd hh;have HG:Hd (∀a,PN.stI (PN.rstep a c)=PN.stI (PN.rstep a c)):=hd fun _=>rfl
  have hp:=PN.hI_pos (c:=c);rw[hh]at hp;have hp2:(0≤PN.hI c)=True:=(by simp[hp]);have hlo : -1≤PN.hI c:=(by unfold PN.hI;split<;>omega);clear hp hh HG;have HI:=hd (rfhex_any c w h);generalize PN.hI c=z at *;rcases (show a=0∨a=1∨a=2∨a=3∨a=4∨a=5∨a=6∨a=7∨a=8∨a=9∨a=10 by omega) with rfl|rfl|rfl|rfl|rfl|rfl|rfl|rfl|rfl|rfl|rfl
  all_goals
   clear ha hk;go_enter func124,ntmps124;go_wp2_with (first|(go_at_call 154;refine(rfdigit_any _ _ h).mono ?_;rintro e w' ⟨rfl,rfl⟩;rw[V.o])|(go_at_call 153;(with_reducible refine HI.o.mono ?_);rintro e w' ⟨rfl,rfl⟩))
   go_ret;refine⟨ret_int ?_,rfl⟩;have v1:=V.o;have v2:=VH.o;have v3:=HC.o;subst v3;simp[PN.rstep,PN.stI,v1,v2]
 |false=>
  have VH:=hd hh;have HG:Hd (∀a,PN.stI (PN.rstep a c)=PN.stI (PN.rstep a c)):=hd fun _=>rfl
  have hp:=PN.hI_pos (c:=c);rw[hh]at hp;have hp2:(0≤PN.hI c)=False:=(by simp only[hp];simp);have hlo : -1≤PN.hI c:=(by unfold PN.hI;split<;>omega);clear hp hh HG;have HI:=hd (rfhex_any c w h);generalize PN.hI c=z at *;rcases (show a=0∨a=1∨a=2∨a=3∨a=4∨a=5∨a=6∨a=7∨a=8∨a=9∨a=10 by omega) with rfl|rfl|rfl|rfl|rfl|rfl|rfl|rfl|rfl|rfl|rfl
  all_goals
   clear ha hk;go_enter func124,ntmps124;go_wp2_with (first|(go_at_call 154;refine(rfdigit_any _ _ h).mono ?_;rintro e w' ⟨rfl,rfl⟩;rw[V.o])|(go_at_call 153;(with_reducible refine HI.o.mono ?_);rintro e w' ⟨rfl,rfl⟩))
   go_ret;refine⟨ret_int ?_,rfl⟩;have v1:=V.o;have v2:=VH.o;have v3:=HC.o;subst v3;simp[PN.rstep,PN.stI,v1,v2]
theorem rfstep_c88 (a c:Nat)(w:World)(ha:a≤10)(h:c<256)(hk:c=88) :
  Calls prog 124 #[.int .i64 (a:Int),.int .u8 c] w fun e w'=>e=.returned (.int .i64 (PN.stI (PN.rstep a c)))∧w=w':=by
 have t48:((c:Int)==48)=false:=(by rw[bf];omega);have t120:((c:Int)==120)=false:=(by rw[bf];omega);have t88:((c:Int)==88)=true:=(by rw[beq_iff_eq];omega);have t46:((c:Int)==46)=false:=(by rw[bf];omega);have t101:((c:Int)==101)=false:=(by rw[bf];omega);have t69:((c:Int)==69)=false:=(by rw[bf];omega);have t43:((c:Int)==43)=false:=(by rw[bf];omega);have t45:((c:Int)==45)=false:=(by rw[bf];omega);have V:Hd (PN.dg c=false):=hd (by rw[PN.dg_no];omega);have HK:=hd (PF.hx_iff (c:=c))
 have HC:=hd hk;cases hh:PN.hx c with
 |true=>
  have VH:=hd hh;have HG:Hd (∀a,PN.stI (PN.rstep a c)=PN.stI (PN.rstep a c)):=hd fun _=>rfl
  have hp:=PN.hI_pos (c:=c);rw[hh]at hp;have hp2:(0≤PN.hI c)=True:=(by simp[hp]);have hlo : -1≤PN.hI c:=(by unfold PN.hI;split<;>omega);clear hp hh HG;have HI:=hd (rfhex_any c w h);generalize PN.hI c=z at *;rcases (show a=0∨a=1∨a=2∨a=3∨a=4∨a=5∨a=6∨a=7∨a=8∨a=9∨a=10 by omega) with rfl|rfl|rfl|rfl|rfl|rfl|rfl|rfl|rfl|rfl|rfl
  all_goals
   clear ha hk;go_enter func124,ntmps124;go_wp2_with (first|(go_at_call 154;refine(rfdigit_any _ _ h).mono ?_;rintro e w' ⟨rfl,rfl⟩;rw[V.o])|(go_at_call 153;(with_reducible refine HI.o.mono ?_);rintro e w' ⟨rfl,rfl⟩))
   go_ret;refine⟨ret_int ?_,rfl⟩;have v1:=V.o;have v2:=VH.o;have v3:=HC.o;subst v3;simp[PN.rstep,PN.stI,v1,v2]
 |false=>
  have VH:=hd hh;have HG:Hd (∀a,PN.stI (PN.rstep a c)=PN.stI (PN.rstep a c)):=hd fun _=>rfl
  have hp:=PN.hI_pos (c:=c);rw[hh]at hp;have hp2:(0≤PN.hI c)=False:=(by simp only[hp];simp);have hlo : -1≤PN.hI c:=(by unfold PN.hI;split<;>omega);clear hp hh HG;have HI:=hd (rfhex_any c w h);generalize PN.hI c=z at *;rcases (show a=0∨a=1∨a=2∨a=3∨a=4∨a=5∨a=6∨a=7∨a=8∨a=9∨a=10 by omega) with rfl|rfl|rfl|rfl|rfl|rfl|rfl|rfl|rfl|rfl|rfl
  all_goals
   clear ha hk;go_enter func124,ntmps124;go_wp2_with (first|(go_at_call 154;refine(rfdigit_any _ _ h).mono ?_;rintro e w' ⟨rfl,rfl⟩;rw[V.o])|(go_at_call 153;(with_reducible refine HI.o.mono ?_);rintro e w' ⟨rfl,rfl⟩))
   go_ret;refine⟨ret_int ?_,rfl⟩;have v1:=V.o;have v2:=VH.o;have v3:=HC.o;subst v3;simp[PN.rstep,PN.stI,v1,v2]
theorem rfstep_c46 (a c:Nat)(w:World)(ha:a≤10)(h:c<256)(hk:c=46) :
  Calls prog 124 #[.int .i64 (a:Int),.int .u8 c] w fun e w'=>e=.returned (.int .i64 (PN.stI (PN.rstep a c)))∧w=w':=by
 have t48:((c:Int)==48)=false:=(by rw[bf];omega);have t120:((c:Int)==120)=false:=(by rw[bf];omega);have t88:((c:Int)==88)=false:=(by rw[bf];omega);have t46:((c:Int)==46)=true:=(by rw[beq_iff_eq];omega);have t101:((c:Int)==101)=false:=(by rw[bf];omega);have t69:((c:Int)==69)=false:=(by rw[bf];omega);have t43:((c:Int)==43)=false:=(by rw[bf];omega);have t45:((c:Int)==45)=false:=(by rw[bf];omega);have V:Hd (PN.dg c=false):=hd (by rw[PN.dg_no];omega);have HK:=hd (PF.hx_iff (c:=c))
 have HC:=hd hk;cases hh:PN.hx c with
 |true=>
  have VH:=hd hh;have HG:Hd (∀a,PN.stI (PN.rstep a c)=PN.stI (PN.rstep a c)):=hd fun _=>rfl
  have hp:=PN.hI_pos (c:=c);rw[hh]at hp;have hp2:(0≤PN.hI c)=True:=(by simp[hp]);have hlo : -1≤PN.hI c:=(by unfold PN.hI;split<;>omega);clear hp hh HG;have HI:=hd (rfhex_any c w h);generalize PN.hI c=z at *;rcases (show a=0∨a=1∨a=2∨a=3∨a=4∨a=5∨a=6∨a=7∨a=8∨a=9∨a=10 by omega) with rfl|rfl|rfl|rfl|rfl|rfl|rfl|rfl|rfl|rfl|rfl
  all_goals
   clear ha hk;go_enter func124,ntmps124;go_wp2_with (first|(go_at_call 154;refine(rfdigit_any _ _ h).mono ?_;rintro e w' ⟨rfl,rfl⟩;rw[V.o])|(go_at_call 153;(with_reducible refine HI.o.mono ?_);rintro e w' ⟨rfl,rfl⟩))
   go_ret;refine⟨ret_int ?_,rfl⟩;have v1:=V.o;have v2:=VH.o;have v3:=HC.o;subst v3;simp[PN.rstep,PN.stI,v1,v2]
 |false=>
  have VH:=hd hh;have HG:Hd (∀a,PN.stI (PN.rstep a c)=PN.stI (PN.rstep a c)):=hd fun _=>rfl
  have hp:=PN.hI_pos (c:=c);rw[hh]at hp;have hp2:(0≤PN.hI c)=False:=(by simp only[hp];simp);have hlo : -1≤PN.hI c:=(by unfold PN.hI;split<;>omega);clear hp hh HG;have HI:=hd (rfhex_any c w h);generalize PN.hI c=z at *;rcases (show a=0∨a=1∨a=2∨a=3∨a=4∨a=5∨a=6∨a=7∨a=8∨a=9∨a=10 by omega) with rfl|rfl|rfl|rfl|rfl|rfl|rfl|rfl|rfl|rfl|rfl
  all_goals
   clear ha hk;go_enter func124,ntmps124;go_wp2_with (first|(go_at_call 154;refine(rfdigit_any _ _ h).mono ?_;rintro e w' ⟨rfl,rfl⟩;rw[V.o])|(go_at_call 153;(with_reducible refine HI.o.mono ?_);rintro e w' ⟨rfl,rfl⟩))
   go_ret;refine⟨ret_int ?_,rfl⟩;have v1:=V.o;have v2:=VH.o;have v3:=HC.o;subst v3;simp[PN.rstep,PN.stI,v1,v2]
theorem rfstep_c101 (a c:Nat)(w:World)(ha:a≤10)(h:c<256)(hk:c=101) :
  Calls prog 124 #[.int .i64 (a:Int),.int .u8 c] w fun e w'=>e=.returned (.int .i64 (PN.stI (PN.rstep a c)))∧w=w':=by
 have t48:((c:Int)==48)=false:=(by rw[bf];omega);have t120:((c:Int)==120)=false:=(by rw[bf];omega);have t88:((c:Int)==88)=false:=(by rw[bf];omega);have t46:((c:Int)==46)=false:=(by rw[bf];omega);have t101:((c:Int)==101)=true:=(by rw[beq_iff_eq];omega);have t69:((c:Int)==69)=false:=(by rw[bf];omega);have t43:((c:Int)==43)=false:=(by rw[bf];omega);have t45:((c:Int)==45)=false:=(by rw[bf];omega);have V:Hd (PN.dg c=false):=hd (by rw[PN.dg_no];omega);have HK:=hd (PF.hx_iff (c:=c))
 have HC:=hd hk;cases hh:PN.hx c with
 |true=>
  have VH:=hd hh;have HG:Hd (∀a,PN.stI (PN.rstep a c)=PN.stI (PN.rstep a c)):=hd fun _=>rfl
  have hp:=PN.hI_pos (c:=c);rw[hh]at hp;have hp2:(0≤PN.hI c)=True:=(by simp[hp]);have hlo : -1≤PN.hI c:=(by unfold PN.hI;split<;>omega);clear hp hh HG;have HI:=hd (rfhex_any c w h);generalize PN.hI c=z at *;rcases (show a=0∨a=1∨a=2∨a=3∨a=4∨a=5∨a=6∨a=7∨a=8∨a=9∨a=10 by omega) with rfl|rfl|rfl|rfl|rfl|rfl|rfl|rfl|rfl|rfl|rfl
  all_goals
   clear ha hk;go_enter func124,ntmps124;go_wp2_with (first|(go_at_call 154;refine(rfdigit_any _ _ h).mono ?_;rintro e w' ⟨rfl,rfl⟩;rw[V.o])|(go_at_call 153;(with_reducible refine HI.o.mono ?_);rintro e w' ⟨rfl,rfl⟩))
   go_ret;refine⟨ret_int ?_,rfl⟩;have v1:=V.o;have v2:=VH.o;have v3:=HC.o;subst v3;simp[PN.rstep,PN.stI,v1,v2]
 |false=>
  have VH:=hd hh;have HG:Hd (∀a,PN.stI (PN.rstep a c)=PN.stI (PN.rstep a c)):=hd fun _=>rfl
  have hp:=PN.hI_pos (c:=c);rw[hh]at hp;have hp2:(0≤PN.hI c)=False:=(by simp only[hp];simp);have hlo : -1≤PN.hI c:=(by unfold PN.hI;split<;>omega);clear hp hh HG;have HI:=hd (rfhex_any c w h);generalize PN.hI c=z at *;rcases (show a=0∨a=1∨a=2∨a=3∨a=4∨a=5∨a=6∨a=7∨a=8∨a=9∨a=10 by omega) with rfl|rfl|rfl|rfl|rfl|rfl|rfl|rfl|rfl|rfl|rfl
  all_goals
   clear ha hk;go_enter func124,ntmps124;go_wp2_with (first|(go_at_call 154;refine(rfdigit_any _ _ h).mono ?_;rintro e w' ⟨rfl,rfl⟩;rw[V.o])|(go_at_call 153;(with_reducible refine HI.o.mono ?_);rintro e w' ⟨rfl,rfl⟩))
   go_ret;refine⟨ret_int ?_,rfl⟩;have v1:=V.o;have v2:=VH.o;have v3:=HC.o;subst v3;simp[PN.rstep,PN.stI,v1,v2]
theorem rfstep_c69 (a c:Nat)(w:World)(ha:a≤10)(h:c<256)(hk:c=69) :
  Calls prog 124 #[.int .i64 (a:Int),.int .u8 c] w fun e w'=>e=.returned (.int .i64 (PN.stI (PN.rstep a c)))∧w=w':=by
 have t48:((c:Int)==48)=false:=(by rw[bf];omega);have t120:((c:Int)==120)=false:=(by rw[bf];omega);have t88:((c:Int)==88)=false:=(by rw[bf];omega);have t46:((c:Int)==46)=false:=(by rw[bf];omega);have t101:((c:Int)==101)=false:=(by rw[bf];omega);have t69:((c:Int)==69)=true:=(by rw[beq_iff_eq];omega);have t43:((c:Int)==43)=false:=(by rw[bf];omega);have t45:((c:Int)==45)=false:=(by rw[bf];omega);have V:Hd (PN.dg c=false):=hd (by rw[PN.dg_no];omega);have HK:=hd (PF.hx_iff (c:=c))
 have HC:=hd hk;cases hh:PN.hx c with
 |true=>
  have VH:=hd hh;have HG:Hd (∀a,PN.stI (PN.rstep a c)=PN.stI (PN.rstep a c)):=hd fun _=>rfl
  have hp:=PN.hI_pos (c:=c);rw[hh]at hp;have hp2:(0≤PN.hI c)=True:=(by simp[hp]);have hlo : -1≤PN.hI c:=(by unfold PN.hI;split<;>omega);clear hp hh HG;have HI:=hd (rfhex_any c w h);generalize PN.hI c=z at *;rcases (show a=0∨a=1∨a=2∨a=3∨a=4∨a=5∨a=6∨a=7∨a=8∨a=9∨a=10 by omega) with rfl|rfl|rfl|rfl|rfl|rfl|rfl|rfl|rfl|rfl|rfl
  all_goals
   clear ha hk;go_enter func124,ntmps124;go_wp2_with (first|(go_at_call 154;refine(rfdigit_any _ _ h).mono ?_;rintro e w' ⟨rfl,rfl⟩;rw[V.o])|(go_at_call 153;(with_reducible refine HI.o.mono ?_);rintro e w' ⟨rfl,rfl⟩))
   go_ret;refine⟨ret_int ?_,rfl⟩;have v1:=V.o;have v2:=VH.o;have v3:=HC.o;subst v3;simp[PN.rstep,PN.stI,v1,v2]
 |false=>
  have VH:=hd hh;have HG:Hd (∀a,PN.stI (PN.rstep a c)=PN.stI (PN.rstep a c)):=hd fun _=>rfl
  have hp:=PN.hI_pos (c:=c);rw[hh]at hp;have hp2:(0≤PN.hI c)=False:=(by simp only[hp];simp);have hlo : -1≤PN.hI c:=(by unfold PN.hI;split<;>omega);clear hp hh HG;have HI:=hd (rfhex_any c w h);generalize PN.hI c=z at *;rcases (show a=0∨a=1∨a=2∨a=3∨a=4∨a=5∨a=6∨a=7∨a=8∨a=9∨a=10 by omega) with rfl|rfl|rfl|rfl|rfl|rfl|rfl|rfl|rfl|rfl|rfl
  all_goals
   clear ha hk;go_enter func124,ntmps124;go_wp2_with (first|(go_at_call 154;refine(rfdigit_any _ _ h).mono ?_;rintro e w' ⟨rfl,rfl⟩;rw[V.o])|(go_at_call 153;(with_reducible refine HI.o.mono ?_);rintro e w' ⟨rfl,rfl⟩))
   go_ret;refine⟨ret_int ?_,rfl⟩;have v1:=V.o;have v2:=VH.o;have v3:=HC.o;subst v3;simp[PN.rstep,PN.stI,v1,v2]
theorem rfstep_c43 (a c:Nat)(w:World)(ha:a≤10)(h:c<256)(hk:c=43) :
  Calls prog 124 #[.int .i64 (a:Int),.int .u8 c] w fun e w'=>e=.returned (.int .i64 (PN.stI (PN.rstep a c)))∧w=w':=by
 have t48:((c:Int)==48)=false:=(by rw[bf];omega);have t120:((c:Int)==120)=false:=(by rw[bf];omega);have t88:((c:Int)==88)=false:=(by rw[bf];omega);have t46:((c:Int)==46)=false:=(by rw[bf];omega);have t101:((c:Int)==101)=false:=(by rw[bf];omega);have t69:((c:Int)==69)=false:=(by rw[bf];omega);have t43:((c:Int)==43)=true:=(by rw[beq_iff_eq];omega);have t45:((c:Int)==45)=false:=(by rw[bf];omega);have V:Hd (PN.dg c=false):=hd (by rw[PN.dg_no];omega);have HK:=hd (PF.hx_iff (c:=c))
 have HC:=hd hk;cases hh:PN.hx c with
 |true=>
  have VH:=hd hh;have HG:Hd (∀a,PN.stI (PN.rstep a c)=PN.stI (PN.rstep a c)):=hd fun _=>rfl
  have hp:=PN.hI_pos (c:=c);rw[hh]at hp;have hp2:(0≤PN.hI c)=True:=(by simp[hp]);have hlo : -1≤PN.hI c:=(by unfold PN.hI;split<;>omega);clear hp hh HG;have HI:=hd (rfhex_any c w h);generalize PN.hI c=z at *;rcases (show a=0∨a=1∨a=2∨a=3∨a=4∨a=5∨a=6∨a=7∨a=8∨a=9∨a=10 by omega) with rfl|rfl|rfl|rfl|rfl|rfl|rfl|rfl|rfl|rfl|rfl
  all_goals
   clear ha hk;go_enter func124,ntmps124;go_wp2_with (first|(go_at_call 154;refine(rfdigit_any _ _ h).mono ?_;rintro e w' ⟨rfl,rfl⟩;rw[V.o])|(go_at_call 153;(with_reducible refine HI.o.mono ?_);rintro e w' ⟨rfl,rfl⟩))
   go_ret;refine⟨ret_int ?_,rfl⟩;have v1:=V.o;have v2:=VH.o;have v3:=HC.o;subst v3;simp[PN.rstep,PN.stI,v1,v2]
 |false=>
  have VH:=hd hh;have HG:Hd (∀a,PN.stI (PN.rstep a c)=PN.stI (PN.rstep a c)):=hd fun _=>rfl
  have hp:=PN.hI_pos (c:=c);rw[hh]at hp;have hp2:(0≤PN.hI c)=False:=(by simp only[hp];simp);have hlo : -1≤PN.hI c:=(by unfold PN.hI;split<;>omega);clear hp hh HG;have HI:=hd (rfhex_any c w h);generalize PN.hI c=z at *;rcases (show a=0∨a=1∨a=2∨a=3∨a=4∨a=5∨a=6∨a=7∨a=8∨a=9∨a=10 by omega) with rfl|rfl|rfl|rfl|rfl|rfl|rfl|rfl|rfl|rfl|rfl
  all_goals
   clear ha hk;go_enter func124,ntmps124;go_wp2_with (first|(go_at_call 154;refine(rfdigit_any _ _ h).mono ?_;rintro e w' ⟨rfl,rfl⟩;rw[V.o])|(go_at_call 153;(with_reducible refine HI.o.mono ?_);rintro e w' ⟨rfl,rfl⟩))
   go_ret;refine⟨ret_int ?_,rfl⟩;have v1:=V.o;have v2:=VH.o;have v3:=HC.o;subst v3;simp[PN.rstep,PN.stI,v1,v2]
theorem rfstep_c45 (a c:Nat)(w:World)(ha:a≤10)(h:c<256)(hk:c=45) :
  Calls prog 124 #[.int .i64 (a:Int),.int .u8 c] w fun e w'=>e=.returned (.int .i64 (PN.stI (PN.rstep a c)))∧w=w':=by
 have t48:((c:Int)==48)=false:=(by rw[bf];omega);have t120:((c:Int)==120)=false:=(by rw[bf];omega);have t88:((c:Int)==88)=false:=(by rw[bf];omega);have t46:((c:Int)==46)=false:=(by rw[bf];omega);have t101:((c:Int)==101)=false:=(by rw[bf];omega);have t69:((c:Int)==69)=false:=(by rw[bf];omega);have t43:((c:Int)==43)=false:=(by rw[bf];omega);have t45:((c:Int)==45)=true:=(by rw[beq_iff_eq];omega);have V:Hd (PN.dg c=false):=hd (by rw[PN.dg_no];omega);have HK:=hd (PF.hx_iff (c:=c))
 have HC:=hd hk;cases hh:PN.hx c with
 |true=>
  have VH:=hd hh;have HG:Hd (∀a,PN.stI (PN.rstep a c)=PN.stI (PN.rstep a c)):=hd fun _=>rfl
  have hp:=PN.hI_pos (c:=c);rw[hh]at hp;have hp2:(0≤PN.hI c)=True:=(by simp[hp]);have hlo : -1≤PN.hI c:=(by unfold PN.hI;split<;>omega);clear hp hh HG;have HI:=hd (rfhex_any c w h);generalize PN.hI c=z at *;rcases (show a=0∨a=1∨a=2∨a=3∨a=4∨a=5∨a=6∨a=7∨a=8∨a=9∨a=10 by omega) with rfl|rfl|rfl|rfl|rfl|rfl|rfl|rfl|rfl|rfl|rfl
  all_goals
   clear ha hk;go_enter func124,ntmps124;go_wp2_with (first|(go_at_call 154;refine(rfdigit_any _ _ h).mono ?_;rintro e w' ⟨rfl,rfl⟩;rw[V.o])|(go_at_call 153;(with_reducible refine HI.o.mono ?_);rintro e w' ⟨rfl,rfl⟩))
   go_ret;refine⟨ret_int ?_,rfl⟩;have v1:=V.o;have v2:=VH.o;have v3:=HC.o;subst v3;simp[PN.rstep,PN.stI,v1,v2]
 |false=>
  have VH:=hd hh;have HG:Hd (∀a,PN.stI (PN.rstep a c)=PN.stI (PN.rstep a c)):=hd fun _=>rfl
  have hp:=PN.hI_pos (c:=c);rw[hh]at hp;have hp2:(0≤PN.hI c)=False:=(by simp only[hp];simp);have hlo : -1≤PN.hI c:=(by unfold PN.hI;split<;>omega);clear hp hh HG;have HI:=hd (rfhex_any c w h);generalize PN.hI c=z at *;rcases (show a=0∨a=1∨a=2∨a=3∨a=4∨a=5∨a=6∨a=7∨a=8∨a=9∨a=10 by omega) with rfl|rfl|rfl|rfl|rfl|rfl|rfl|rfl|rfl|rfl|rfl
  all_goals
   clear ha hk;go_enter func124,ntmps124;go_wp2_with (first|(go_at_call 154;refine(rfdigit_any _ _ h).mono ?_;rintro e w' ⟨rfl,rfl⟩;rw[V.o])|(go_at_call 153;(with_reducible refine HI.o.mono ?_);rintro e w' ⟨rfl,rfl⟩))
   go_ret;refine⟨ret_int ?_,rfl⟩;have v1:=V.o;have v2:=VH.o;have v3:=HC.o;subst v3;simp[PN.rstep,PN.stI,v1,v2]
theorem rfstep_dig (a c:Nat)(w:World)(ha:a≤10)(h:c<256)(hk:49≤c∧c≤57) :
  Calls prog 124 #[.int .i64 (a:Int),.int .u8 c] w fun e w'=>e=.returned (.int .i64 (PN.stI (PN.rstep a c)))∧w=w':=by
 have t48:((c:Int)==48)=false:=(by rw[bf];omega);have t120:((c:Int)==120)=false:=(by rw[bf];omega);have t88:((c:Int)==88)=false:=(by rw[bf];omega);have t46:((c:Int)==46)=false:=(by rw[bf];omega);have t101:((c:Int)==101)=false:=(by rw[bf];omega);have t69:((c:Int)==69)=false:=(by rw[bf];omega);have t43:((c:Int)==43)=false:=(by rw[bf];omega);have t45:((c:Int)==45)=false:=(by rw[bf];omega);have V:Hd (PN.dg c=true):=hd (by rw[PN.dg_iff'];omega)
 have HK:=hd (PF.hx_iff (c:=c));have HC:=hd hk;cases hh:PN.hx c with
 |true=>
  have VH:=hd hh;have HG:Hd (∀a,PN.stI (PN.rstep a c)=PN.stI (PN.rstep a c)):=hd fun _=>rfl
  have hp:=PN.hI_pos (c:=c);rw[hh]at hp;have hp2:(0≤PN.hI c)=True:=(by simp[hp]);have hlo : -1≤PN.hI c:=(by unfold PN.hI;split<;>omega);clear hp hh HG;have HI:=hd (rfhex_any c w h);generalize PN.hI c=z at *;rcases (show a=0∨a=1∨a=2∨a=3∨a=4∨a=5∨a=6∨a=7∨a=8∨a=9∨a=10 by omega) with rfl|rfl|rfl|rfl|rfl|rfl|rfl|rfl|rfl|rfl|rfl
  all_goals
   clear ha hk;go_enter func124,ntmps124;go_wp2_with (first|(go_at_call 154;refine(rfdigit_any _ _ h).mono ?_;rintro e w' ⟨rfl,rfl⟩;rw[V.o])|(go_at_call 153;(with_reducible refine HI.o.mono ?_);rintro e w' ⟨rfl,rfl⟩))
   go_ret;refine⟨ret_int ?_,rfl⟩;have v1:=V.o;have v2:=VH.o;have v3:=HC.o;have v4:c≠48∧c≠120∧c≠88∧c≠46∧c≠101∧c≠69∧c≠43∧c≠45:=(by omega);simp[PN.rstep,PN.stI,v1,v2,v4]
 |false=>
  have VH:=hd hh;have HG:Hd (∀a,PN.stI (PN.rstep a c)=PN.stI (PN.rstep a c)):=hd fun _=>rfl
  have hp:=PN.hI_pos (c:=c);rw[hh]at hp;have hp2:(0≤PN.hI c)=False:=(by simp only[hp];simp);have hlo : -1≤PN.hI c:=(by unfold PN.hI;split<;>omega);clear hp hh HG;have HI:=hd (rfhex_any c w h);generalize PN.hI c=z at *;rcases (show a=0∨a=1∨a=2∨a=3∨a=4∨a=5∨a=6∨a=7∨a=8∨a=9∨a=10 by omega) with rfl|rfl|rfl|rfl|rfl|rfl|rfl|rfl|rfl|rfl|rfl
  all_goals
   clear ha hk;go_enter func124,ntmps124;go_wp2_with (first|(go_at_call 154;refine(rfdigit_any _ _ h).mono ?_;rintro e w' ⟨rfl,rfl⟩;rw[V.o])|(go_at_call 153;(with_reducible refine HI.o.mono ?_);rintro e w' ⟨rfl,rfl⟩))
   go_ret;refine⟨ret_int ?_,rfl⟩;have v1:=V.o;have v2:=VH.o;have v3:=HC.o;have v4:c≠48∧c≠120∧c≠88∧c≠46∧c≠101∧c≠69∧c≠43∧c≠45:=(by omega);simp[PN.rstep,PN.stI,v1,v2,v4]
theorem rfstep_oth (a c:Nat)(w:World)(ha:a≤10)(h:c<256)(hk:¬ (48≤c∧c≤57)∧c≠120∧c≠88∧c≠46∧c≠101∧c≠69∧c≠43∧c≠45) :
  Calls prog 124 #[.int .i64 (a:Int),.int .u8 c] w fun e w'=>e=.returned (.int .i64 (PN.stI (PN.rstep a c)))∧w=w':=by
 have t48:((c:Int)==48)=false:=(by rw[bf];omega);have t120:((c:Int)==120)=false:=(by rw[bf];omega);have t88:((c:Int)==88)=false:=(by rw[bf];omega);have t46:((c:Int)==46)=false:=(by rw[bf];omega);have t101:((c:Int)==101)=false:=(by rw[bf];omega);have t69:((c:Int)==69)=false:=(by rw[bf];omega);have t43:((c:Int)==43)=false:=(by rw[bf];omega);have t45:((c:Int)==45)=false:=(by rw[bf];omega);have V:Hd (PN.dg c=false):=hd (by rw[PN.dg_no];omega)
 have HK:=hd (PF.hx_iff (c:=c));have HC:=hd hk;cases hh:PN.hx c with
 |true=>
  have VH:=hd hh;have HG:Hd (∀a,PN.stI (PN.rstep a c)=PN.stI (PN.rstep a c)):=hd fun _=>rfl
  have hp:=PN.hI_pos (c:=c);rw[hh]at hp;have hp2:(0≤PN.hI c)=True:=(by simp[hp]);have hlo : -1≤PN.hI c:=(by unfold PN.hI;split<;>omega);clear hp hh HG;have HI:=hd (rfhex_any c w h);generalize PN.hI c=z at *;rcases (show a=0∨a=1∨a=2∨a=3∨a=4∨a=5∨a=6∨a=7∨a=8∨a=9∨a=10 by omega) with rfl|rfl|rfl|rfl|rfl|rfl|rfl|rfl|rfl|rfl|rfl
  all_goals
   clear ha hk;go_enter func124,ntmps124;go_wp2_with (first|(go_at_call 154;refine(rfdigit_any _ _ h).mono ?_;rintro e w' ⟨rfl,rfl⟩;rw[V.o])|(go_at_call 153;(with_reducible refine HI.o.mono ?_);rintro e w' ⟨rfl,rfl⟩))
   go_ret;refine⟨ret_int ?_,rfl⟩;have v1:=V.o;have v2:=VH.o;have v3:=HC.o;have v4:c≠48∧c≠120∧c≠88∧c≠46∧c≠101∧c≠69∧c≠43∧c≠45:=(by omega);simp[PN.rstep,PN.stI,v1,v2,v4]
 |false=>
  have VH:=hd hh;have HG:Hd (∀a,PN.stI (PN.rstep a c)=PN.stI (PN.rstep a c)):=hd fun _=>rfl
  have hp:=PN.hI_pos (c:=c);rw[hh]at hp;have hp2:(0≤PN.hI c)=False:=(by simp only[hp];simp);have hlo : -1≤PN.hI c:=(by unfold PN.hI;split<;>omega);clear hp hh HG;have HI:=hd (rfhex_any c w h);generalize PN.hI c=z at *;rcases (show a=0∨a=1∨a=2∨a=3∨a=4∨a=5∨a=6∨a=7∨a=8∨a=9∨a=10 by omega) with rfl|rfl|rfl|rfl|rfl|rfl|rfl|rfl|rfl|rfl|rfl
  all_goals
   clear ha hk;go_enter func124,ntmps124;go_wp2_with (first|(go_at_call 154;refine(rfdigit_any _ _ h).mono ?_;rintro e w' ⟨rfl,rfl⟩;rw[V.o])|(go_at_call 153;(with_reducible refine HI.o.mono ?_);rintro e w' ⟨rfl,rfl⟩))
   go_ret;refine⟨ret_int ?_,rfl⟩;have v1:=V.o;have v2:=VH.o;have v3:=HC.o;have v4:c≠48∧c≠120∧c≠88∧c≠46∧c≠101∧c≠69∧c≠43∧c≠45:=(by omega);simp[PN.rstep,PN.stI,v1,v2,v4]
theorem rfstep_any (a c:Nat)(w:World)(ha:a≤10)(h:c<256) :
  Calls prog 124 #[.int .i64 (a:Int),.int .u8 c] w fun e w'=>e=.returned (.int .i64 (PN.stI (PN.rstep a c)))∧w=w':=by
 by_cases k48:c=48
 ·exact rfstep_c48 a c w ha h k48
 by_cases k120:c=120
 ·exact rfstep_c120 a c w ha h k120
 by_cases k88:c=88
 ·exact rfstep_c88 a c w ha h k88
 by_cases k46:c=46
 ·exact rfstep_c46 a c w ha h k46
 by_cases k101:c=101
 ·exact rfstep_c101 a c w ha h k101
 by_cases k69:c=69
 ·exact rfstep_c69 a c w ha h k69
 by_cases k43:c=43
 ·exact rfstep_c43 a c w ha h k43
 by_cases k45:c=45
 ·exact rfstep_c45 a c w ha h k45
 by_cases kd:49≤c∧c≤57
 ·exact rfstep_dig a c w ha h kd
 exact rfstep_oth a c w ha h (by omega)
theorem PN.rstep_le {a c b:Nat}(h:PN.rstep a c=some b):b≤10:=by
 unfold PN.rstep at h
 repeat' split at h
 all_goals first|(cases h;done)|(have:=Option.some.inj h;omega)
theorem rfwhole_any (a:Nat)(w:World)(h:a≤10) :
  Calls prog 125 #[.int .i64 (a:Int)] w fun e w'=>e=.returned (.bool (PN.rwh a))∧w=w':=by
 rcases (show a=0∨a=1∨a=2∨a=3∨a=4∨a=5∨a=6∨a=7∨a=8∨a=9∨a=10 by omega) with rfl|rfl|rfl|rfl|rfl|rfl|rfl|rfl|rfl|rfl|rfl
 all_goals
  go_enter func125,ntmps125;go_wp2;go_ret;exact⟨rfl,rfl⟩
theorem rfprefix_any (s:ByteArray)(w:World)(hs:s.size≤1125899906842624) :
  Calls prog 93 #[.string s] w fun e w'=>e=.returned (.int .i64 (PN.pfx s.data.toList:Int))∧w=w':=by
 have HSZ:=hd (Lib.size_eq s);have HP:=hd (PN.rp_pfx s.data.toList);generalize PN.pfx s.data.toList=Z at *;go_enter func93,ntmps93;go_wp2
 go_loop [3,4,5] (fun xa xn xi=>∃a n i:Nat,a≤10∧n≤i∧i≤s.size∧xa=.int .i64 (a:Int)∧xn=.int .i64 (n:Int)∧xi=.int .i64 (i:Int)∧Hd (PN.rp (s.data.toList.drop i) a n i=Z)) (fun xa xn xi=>s.size-(intOf xi).toNat)
 case atStart=>exact⟨0,0,0,by decide,by decide,Nat.zero_le _,rfl,rfl,rfl,HP⟩
 case round=>
  obtain⟨a,n,i,ha,hn,hi,rfl,rfl,rfl,HR⟩:=hrel;by_cases hlt:i<s.size
  ·have HDR:=hd (data_drop' s i hlt)
   have hc:(s[i]'hlt).toNat<256:=(s[i]'hlt).toNat_lt;cases hst:PN.rstep a (s[i]'hlt).toNat with
   |none=>
    have HE:Hd (n=Z):=hd (by rw[←HR.o,HDR.o,PN.rp_none hst]);have CS:=hd (rfstep_any a (s[i]'hlt).toNat w ha hc);rw[hst]at CS;clear hst HDR HR HP;go_wp2_with (go_at_call 124;(with_reducible refine CS.o.mono ?_);rintro e w' ⟨rfl,rfl⟩;rw[show PN.stI none = -1 from rfl])
    go_ret;exact⟨ret_int (by have:=HE.o;omega),rfl⟩
   |some b=>
    have hb:=PN.rstep_le hst;have HE:Hd (PN.rp (s.data.toList.drop (i+1)) b (if PN.rwh b then i+1 else n) (i+1)=Z):=hd (by rw[←HR.o,HDR.o,PN.rp_some hst]);have CS:=hd (rfstep_any a (s[i]'hlt).toNat w ha hc);rw[hst]at CS;have CW:=hd (rfwhole_any b w hb);clear hst HDR HR HP;cases hw:PN.rwh b with
    |true=>
     rw[hw]at CW HE;clear hw;go_wp2_with (first|(go_at_call 124;(with_reducible refine CS.o.mono ?_);rintro e w' ⟨rfl,rfl⟩;rw[show PN.stI (some b)=(b:Int) from rfl])|(go_at_call 125;(with_reducible refine CW.o.mono ?_);rintro e w' ⟨rfl,rfl⟩))
     go_round
     case rel=>exact⟨b,i+1,i+1,hb,Nat.le_refl _,by omega,by go_num,by go_num,by go_num,HE⟩
     case measure=>simp[intOf];omega
    |false=>
     rw[hw]at CW HE;clear hw;go_wp2_with (first|(go_at_call 124;(with_reducible refine CS.o.mono ?_);rintro e w' ⟨rfl,rfl⟩;rw[show PN.stI (some b)=(b:Int) from rfl])|(go_at_call 125;(with_reducible refine CW.o.mono ?_);rintro e w' ⟨rfl,rfl⟩))
     go_round
     case rel=>exact⟨b,n,i+1,hb,by omega,by omega,by go_num,by go_num,by go_num,HE⟩
     case measure=>simp[intOf];omega
  ·have HE:Hd (n=Z):=hd (by
    have:=HR.o;rw[List.drop_eq_nil_of_le (by have:=HSZ.o;omega)]at this;exact this)
   clear HR HP;go_wp2;go_ret;exact⟨ret_int (by have:=HE.o;omega),rfl⟩
end Go.Proofs.YtieknenhfeejiaaGreatDoor
