/- internal/strconv.decimal: the block as it lies in memory; trim. Numbers held .. -/
import GoSem.PinnedTables
import Derived.Test.YtieknenhfeejiaaGreatDoorPVal
set_option maxRecDepth 100000
set_option maxHeartbeats 1000000
set_option linter.unusedVariables false
set_option linter.unusedSimpArgs false
namespace Go.Proofs.YtieknenhfeejiaaGreatDoor
open _root_.Go.Proofs.Tryz
open Go.RowKit
namespace DN
def dcl (f:Nat→Nat)(nd:Nat)(dp:Int)(tr:Bool):List Value:=((List.range 800).map fun i=>Value.int .u8 (f i:Int))++[.int .i64 (nd:Int),.int .i64 dp,.bool false,.bool tr]
def upd (f:Nat→Nat)(i x:Nat):Nat→Nat:=fun j=>if j=i then x else f j
theorem mr_len (f:Nat→Nat):((List.range 800).map fun i=>Value.int .u8 (f i:Int)).length=800:=by rw[List.length_map,List.length_range]
theorem dcl_len (f:Nat→Nat)(nd:Nat)(dp:Int)(tr:Bool):(dcl f nd dp tr).length=804:=by unfold dcl;rw[List.length_append,mr_len];rfl
theorem dcl_dig (f:Nat→Nat)(nd:Nat)(dp:Int)(tr:Bool)(i:Nat)(h:i<800):(dcl f nd dp tr)[i]'(by rw[dcl_len];omega)=.int .u8 (f i:Int):=by
 unfold dcl;rw[List.getElem_append_left (by rw[mr_len];exact h),List.getElem_map,List.getElem_range]
theorem dcl_tail (f:Nat→Nat)(nd:Nat)(dp:Int)(tr:Bool)(i:Nat)(h:i<4):(dcl f nd dp tr)[800+i]?=[Value.int .i64 (nd:Int),.int .i64 dp,.bool false,.bool tr][i]?:=by
 unfold dcl;rw[List.getElem?_append_right (by rw[mr_len];omega),mr_len,Nat.add_sub_cancel_left]
theorem mr_set (f:Nat→Nat)(i x:Nat):((List.range 800).map fun i=>Value.int .u8 (f i:Int)).set i (.int .u8 (x:Int))=(List.range 800).map fun j=>Value.int .u8 (upd f i x j:Int):=by
 apply List.ext_getElem
 ·rw[List.length_set,mr_len,mr_len]
 ·intro j h1 h2
  rw[List.getElem_set,List.getElem_map,List.getElem_map,List.getElem_range];unfold upd;by_cases c:i=j
  ·subst c;rw[if_pos rfl,if_pos rfl]
  ·rw[if_neg c,if_neg (fun e=>c e.symm)]
theorem set_dig (f:Nat→Nat)(nd:Nat)(dp:Int)(tr:Bool)(i x:Nat)(h:i<800):(dcl f nd dp tr).set i (.int .u8 (x:Int))=dcl (upd f i x) nd dp tr:=by
 unfold dcl;rw[List.set_append_left _ _ (by rw[mr_len];exact h),mr_set]
theorem set_tail (f:Nat→Nat)(l:List Value)(i:Nat)(v:Value):(((List.range 800).map fun i=>Value.int .u8 (f i:Int))++l).set (800+i) v=((List.range 800).map fun i=>Value.int .u8 (f i:Int))++l.set i v:=by
 rw[List.set_append_right _ _ (by rw[mr_len];omega),mr_len,Nat.add_sub_cancel_left]
theorem set_nd (f:Nat→Nat)(nd nd2:Nat)(dp:Int)(tr:Bool):(dcl f nd dp tr).set 800 (.int .i64 (nd2:Int))=dcl f nd2 dp tr:=set_tail f _ 0 _
theorem set_dp (f:Nat→Nat)(nd:Nat)(dp dp2:Int)(tr:Bool):(dcl f nd dp tr).set 801 (.int .i64 dp2)=dcl f nd dp2 tr:=set_tail f _ 1 _
theorem set_tr (f:Nat→Nat)(nd:Nat)(dp:Int)(tr tr2:Bool):(dcl f nd dp tr).set 803 (.bool tr2)=dcl f nd dp tr2:=set_tail f _ 3 _
end DN
structure Dc (w:World)(b:Nat)(f:Nat→Nat)(nd:Nat)(dp:Int)(tr:Bool):Prop where
 k:Bk w b 231 (DN.dcl f nd dp tr)
section
variable {w:World} {b:Nat} {f:Nat→Nat} {nd:Nat} {dp:Int} {tr:Bool}
theorem Dc.lt (D:Dc w b f nd dp tr):b<w.heap.size:=D.k.lt
theorem Dc.dig (D:Dc w b f nd dp tr)(i:Nat)(h:i<800):w.cell? ⟨b,i,none⟩=some (.int .u8 (f i:Int)):=by
 rw[D.k.cell i (by rw[DN.dcl_len];omega),DN.dcl_dig f nd dp tr i h]
theorem Dc.cnd (D:Dc w b f nd dp tr):w.cell? ⟨b,800,none⟩=some (.int .i64 (nd:Int)):=by
 rw[D.k.cell 800 (by rw[DN.dcl_len];omega),←List.getElem?_eq_getElem];exact DN.dcl_tail f nd dp tr 0 (by decide)
theorem Dc.cdp (D:Dc w b f nd dp tr):w.cell? ⟨b,801,none⟩=some (.int .i64 dp):=by
 rw[D.k.cell 801 (by rw[DN.dcl_len];omega),←List.getElem?_eq_getElem];exact DN.dcl_tail f nd dp tr 1 (by decide)
theorem Dc.cng (D:Dc w b f nd dp tr):w.cell? ⟨b,802,none⟩=some (.bool false):=by
 rw[D.k.cell 802 (by rw[DN.dcl_len];omega),←List.getElem?_eq_getElem];exact DN.dcl_tail f nd dp tr 2 (by decide)
theorem Dc.ctr (D:Dc w b f nd dp tr):w.cell? ⟨b,803,none⟩=some (.bool tr):=by
 rw[D.k.cell 803 (by rw[DN.dcl_len];omega),←List.getElem?_eq_getElem];exact DN.dcl_tail f nd dp tr 3 (by decide)
theorem Dc.fz (D:Dc w b f nd dp tr)(i:Nat):w.frozen? ⟨b,i,none⟩=false:=D.k.frozen i
theorem Dc.sdig (D:Dc w b f nd dp tr)(i x:Nat)(h:i<800):Dc (w.setCell ⟨b,i,none⟩ (.int .u8 (x:Int))) b (DN.upd f i x) nd dp tr:=⟨by rw[←DN.set_dig f nd dp tr i x h];exact D.k.set i _⟩
theorem Dc.snd (D:Dc w b f nd dp tr)(nd2:Nat):Dc (w.setCell ⟨b,800,none⟩ (.int .i64 (nd2:Int))) b f nd2 dp tr:=⟨by rw[←DN.set_nd f nd nd2 dp tr];exact D.k.set 800 _⟩
theorem Dc.sdp (D:Dc w b f nd dp tr)(dp2:Int):Dc (w.setCell ⟨b,801,none⟩ (.int .i64 dp2)) b f nd dp2 tr:=⟨by rw[←DN.set_dp f nd dp dp2 tr];exact D.k.set 801 _⟩
theorem Dc.str (D:Dc w b f nd dp tr)(tr2:Bool):Dc (w.setCell ⟨b,803,none⟩ (.bool tr2)) b f nd dp tr2:=⟨by rw[←DN.set_tr f nd dp tr tr2];exact D.k.set 803 _⟩
theorem Dc.drew (D:Dc w b f nd dp tr)(n:Nat):Dc (w.drewN n) b f nd dp tr:=⟨D.k⟩
end
theorem dtrim_any (w:World)(b:Nat)(f:Nat→Nat)(nd:Nat)(dp:Int)(tr:Bool)(D:Dc w b f nd dp tr)(hnd:nd≤800) :
  Calls prog 226 #[.pointer (some ⟨b,0,none⟩)] w fun e w'=>e=.returned (.tuple #[])∧Below b w w'∧∃m,m≤nd∧(∀i,m≤i→i<nd→f i=48)∧(m=0∨f (m-1)≠48)∧Dc w' b f m (if m=0 then 0 else dp) tr:=by
 have HD:=hd D;clear D;go_enter func226,ntmps226;go_wp2_with fail
 go_loopw [] (fun wr=>∃m:Nat,m≤nd∧Hd (∀i,m≤i→i<nd→f i=48)∧Hd (Dc wr b f m dp tr)∧Hd (Below b w wr)) (fun wr=>match wr.cell? ⟨b,800,none⟩ with|some (.int _ m)=>m.toNat|_=>0)
 case atStart=>exact⟨nd,Nat.le_refl _,hd (fun i h1 h2=>absurd h2 (by omega)),HD,hd (Below.refl _ _)⟩
 case round=>
  obtain⟨m,hm,HZ,HD,HB⟩:=hrel;have c800:=HD.o.cnd;have c801:=HD.o.cdp;have z800:=HD.o.fz 800;have z801:=HD.o.fz 801;by_cases h0:m=0
  ·subst h0
   go_wp2
   go_quiet (fail)
   go_wp2
   go_end0
   exact⟨rfl,(bel_drew HB.o _).setCell (p:=⟨b,801,none⟩) (Nat.le_refl _) _,0,Nat.zero_le _,HZ.o,.inl rfl,(HD.o.drew nq).sdp 0⟩
  ·obtain⟨j,rfl⟩:∃j,m=j+1:=⟨m-1,by omega⟩
   have cj:=HD.o.dig j (by omega);have hj8:j<800:=(by omega);by_cases h48:f j=48
   ·rw[h48]at cj
    go_wp2
    go_quiet (fail)
    go_wp2;go_roundw
    case rel=>exact⟨j,by omega,hd (fun i h1 h2=>by rcases Nat.eq_or_lt_of_le h1 with e|e;exact e ▸ h48;exact HZ.o i (by omega) h2),hd ((HD.o.drew nq).snd j),hd ((bel_drew HB.o _).setCell (p:=⟨b,800,none⟩) (Nat.le_refl _) _)⟩
    case measure=>rw[((HD.o.drew nq).snd j).cnd,HD.o.cnd];show j<j+1;omega
   ·have t48:((f j:Int)==48)=false:=by rw[bf];omega
    go_wp2
    go_quiet (fail)
    go_wp2
    go_end0
    exact⟨rfl,bel_drew HB.o _,j+1,hm,HZ.o,.inr h48,by rw[if_neg (by omega)];exact HD.o.drew nq⟩
end Go.Proofs.YtieknenhfeejiaaGreatDoor
namespace Go.Proofs.YtieknenhfeejiaaGreatDoor
open _root_.Go.Proofs.Tryz
namespace DN
def dvf (f:Nat→Nat):Nat→Nat
 |0=>0
 |n+1=>dvf f n*10+(f n-48)
def pad (f:Nat→Nat)(nd r:Nat):Nat:=if r≤nd then dvf f r else dvf f nd*10^(r-nd)
def dgt (f:Nat→Nat)(nd r:Nat):Nat:=if r<nd then f r-48 else 0
theorem pad_le {f:Nat→Nat}{nd r:Nat}(h:r≤nd):pad f nd r=dvf f r:=if_pos h
theorem pad_ge {f:Nat→Nat}{nd r:Nat}(h:nd≤r):pad f nd r=dvf f nd*10^(r-nd):=by
 unfold pad;split
 ·have:r=nd:=by omega
  subst this;simp
 ·rfl
theorem pad_succ (f:Nat→Nat)(nd r:Nat):pad f nd (r+1)=10*pad f nd r+dgt f nd r:=by
 unfold dgt;by_cases h:r<nd
 ·rw[pad_le (by omega),pad_le (by omega),if_pos h,dvf];omega
 ·rw[pad_ge (by omega),pad_ge (by omega),if_neg h,show r+1-nd=r-nd+1 by omega,Nat.pow_succ,←Nat.mul_assoc];omega
def Ok (f:Nat→Nat)(nd:Nat):Prop:=∀i,i<nd→48≤f i∧f i≤57
theorem dgt_lt {f:Nat→Nat}{nd:Nat}(h:Ok f nd)(r:Nat):dgt f nd r<10:=by
 unfold dgt;split
 ·rename_i hr;have:=h r hr;omega
 ·decide
theorem step_mod (A c K:Nat)(hc:c<10):(10*A+c)%(10*K)=10*(A%K)+c:=by
 rcases Nat.eq_zero_or_pos K with h|h
 ·subst h;simp
 have e:=Nat.div_add_mod A K;have hm:=Nat.mod_lt A h;have:10*A+c=10*(A%K)+c+10*K*(A/K):=by
  have:10*K*(A/K)=10*(K*(A/K)):=Nat.mul_assoc _ _ _;omega
 rw[this,Nat.add_mul_mod_self_left,Nat.mod_eq_of_lt (by omega)]
theorem dig_mod (A K:Nat):A%(10*K)/K=A/K%10:=by
 rw[Nat.mul_comm,Nat.mod_mul_right_div_self]
theorem mod_mod (A K:Nat):A%(10*K)%K=A%K:=Nat.mod_mul_left_mod ..
theorem dvf_digits {f:Nat→Nat}{M m:Nat}(hM:M<10^m):∀j,j≤m→(∀i,i<j→f i=48+M/10^(m-1-i)%10)→dvf f j=M/10^(m-j)
 |0,_,_=>by rw[dvf,Nat.sub_zero,Nat.div_eq_of_lt hM]
 |j+1,hj,h=>by
  rw[dvf,dvf_digits hM j (by omega) (fun i hi=>h i (by omega)),h j (by omega),Nat.add_sub_cancel_left];have e:m-j=(m-1-j)+1:=(by omega);have e2:m-(j+1)=m-1-j:=(by omega);rw[e,e2,Nat.pow_succ,←Nat.div_div_eq_div_mul];generalize M/10^(m-1-j)=x;omega
theorem dvf_congr {f g:Nat→Nat}:∀n,(∀i,i<n→f i=g i)→dvf f n=dvf g n
 |0,_=>rfl
 |n+1,h=>by rw[dvf,dvf,dvf_congr n (fun i hi=>h i (by omega)),h n (by omega)]
theorem dvf_zeros {f:Nat→Nat}{m:Nat}:∀k,(∀i,m≤i→i<m+k→f i=48)→dvf f (m+k)=dvf f m*10^k
 |0,_=>by simp
 |k+1,h=>by
  rw[←Nat.add_assoc,dvf,dvf_zeros k (fun i h1 h2=>h i h1 (by omega)),h (m+k) (by omega) (by omega),Nat.pow_succ,←Nat.mul_assoc];omega
theorem quo_pre {f:Nat→Nat}{nd R K:Nat}(hok:Ok f nd):∀j i,pad f nd (R+i)/K=pad f nd (R+(i+j))/K/10^j
 |0,i=>by simp
 |j+1,i=>by
  rw[quo_pre hok j i];have h:=pad_succ f nd (R+(i+j));have hd:=dgt_lt hok (R+(i+j));rw[show R+(i+(j+1))=R+(i+j)+1 by omega,h,Nat.pow_succ,Nat.mul_comm (10^j) 10,←Nat.div_div_eq_div_mul];congr 1
  rw[Nat.div_div_eq_div_mul,Nat.mul_comm K 10,←Nat.div_div_eq_div_mul];congr 1
  omega
theorem dvd_two_pow:∀(m d:Nat),d ∣ 2^m→∃i,d=2^i
 |0,d,h=>⟨0,by simpa using h⟩
 |m+1,d,h=>by
  rcases Nat.mod_two_eq_zero_or_one d with c|c
  ·obtain⟨e,rfl⟩:∃e,d=2*e:=⟨d/2,by omega⟩
   rw[Nat.pow_succ,Nat.mul_comm 2 e]at h;obtain⟨i,rfl⟩:=dvd_two_pow m e (Nat.dvd_of_mul_dvd_mul_right (show 0<2 by decide) h);exact⟨i+1,by rw[Nat.pow_succ,Nat.mul_comm]⟩
  ·have hc:Nat.Coprime d 2:=by
    rw[Nat.Coprime,Nat.gcd_comm,Nat.gcd_rec,c];decide
   rw[Nat.pow_succ]at h;exact dvd_two_pow m d (Nat.Coprime.dvd_of_dvd_mul_right hc h)
def mu (k n:Nat):Nat:=2^(k+4)/Nat.gcd n (2^(k+4))
theorem mu_dec {k n:Nat}(h0:0<n)(hn:n<10*2^k):mu k (10*(n%2^k))<mu k n:=by
 have hK:0<2^k:=Nat.two_pow_pos k;have e16:2^(k+4)=16*2^k:=(by rw[Nat.pow_add];omega);have hg0:0<Nat.gcd n (2^(k+4)):=Nat.gcd_pos_of_pos_left _ h0;have hgn:Nat.gcd n (2^(k+4))≤n:=Nat.le_of_dvd h0 (Nat.gcd_dvd_left _ _);obtain⟨i,hi⟩:=dvd_two_pow (k+4) _ (Nat.gcd_dvd_right n (2^(k+4)));have hik:i<k+4:=by
  have h1:2^i<2^(k+4):=(by omega);exact(Nat.pow_lt_pow_iff_right (by decide)).1 h1
 have hdn:2^i ∣ n:=hi ▸ Nat.gcd_dvd_left n (2^(k+4));have hmu:mu k n=2^(k+4-i):=by
  unfold mu;rw[hi,Nat.pow_div (by omega) (by decide)]
 have hdv:2^(i+1) ∣ 10*(n%2^k):=by
  by_cases c:i≤k
  ·have h1:2^i ∣ n%2^k:=(Nat.dvd_mod_iff (Nat.pow_dvd_pow 2 c)).2 hdn
   obtain⟨x,hx⟩:=h1;exact⟨5*x,by rw[hx,Nat.pow_succ,show 10=2*5 from rfl];ac_rfl⟩
  ·have h1:2^k ∣ n:=Nat.dvd_trans (Nat.pow_dvd_pow 2 (by omega)) hdn
   rw[Nat.mod_eq_zero_of_dvd h1,Nat.mul_zero];exact Nat.dvd_zero _
 have hd2:2^(i+1) ∣ Nat.gcd (10*(n%2^k)) (2^(k+4)):=Nat.dvd_gcd hdv (Nat.pow_dvd_pow 2 (by omega));have hg2:2^(i+1)≤Nat.gcd (10*(n%2^k)) (2^(k+4)):=Nat.le_of_dvd (Nat.gcd_pos_of_pos_right _ (Nat.two_pow_pos _)) hd2;have h2:mu k (10*(n%2^k))≤2^(k+4)/2^(i+1):=Nat.div_le_div_left hg2 (Nat.two_pow_pos _);rw[Nat.pow_div (by omega) (by decide)]at h2;rw[hmu];refine Nat.lt_of_le_of_lt h2 ?_;exact Nat.pow_lt_pow_right (by decide) (by omega)
theorem right_end {f:Nat→Nat}{nd R K c:Nat}(hok:Ok f nd)(hK:1≤K)(hR:1≤R)(h1:pad f nd (R-1)<K)(h2:K≤pad f nd R)(h:pad f nd (R+c)%(10*K)=0):1≤c∧pad f nd (R+c-1)%K=0:=by
 rcases Nat.eq_zero_or_pos c with e|e
 ·exfalso
  subst e;rw[Nat.add_zero]at h;have e1:=pad_succ f nd (R-1);have e2:=dgt_lt hok (R-1);rw[show R-1+1=R by omega]at e1;rw[Nat.mod_eq_of_lt (by omega)]at h;omega
 ·refine⟨e,?_⟩
  have e1:=pad_succ f nd (R+c-1);have e2:=dgt_lt hok (R+c-1);rw[show R+c-1+1=R+c by omega]at e1;rw[e1,step_mod _ _ _ e2]at h;omega
theorem mod_ten (Q a:Nat):Q%10^(a+1)=(Q/10%10^a)*10+Q%10:=by
 rw[Nat.pow_succ,Nat.mul_comm (10^a) 10,Nat.mod_mul];omega
theorem trunc_step {f:Nat→Nat}{nd R K:Nat}(hok:Ok f nd)(c:Nat)(h:800≤c):pad f nd (R+c)/K%10^(c+1-800)=(pad f nd (R+c-1)/K%10^(c-800))*10+pad f nd (R+c)/K%10:=by
 have e:=quo_pre (f:=f) (nd:=nd) (R:=R) (K:=K) hok 1 (c-1);rw[show c-1+1=c by omega,show R+(c-1)=R+c-1 by omega,Nat.pow_one]at e;rw[show c+1-800=c-800+1 by omega,mod_ten,e]
end DN
namespace DN
theorem dvf_lo (f:Nat→Nat)(j:Nat):∀k,dvf f j*10^k≤dvf f (j+k)
 |0=>by simp
 |k+1=>by
  have:=dvf_lo f j k;rw[←Nat.add_assoc,dvf,Nat.pow_succ,←Nat.mul_assoc];omega
theorem dvf_hi {f:Nat→Nat}(j:Nat):∀k,Ok f (j+k)→dvf f (j+k)<(dvf f j+1)*10^k
 |0,_=>by simp
 |k+1,h=>by
  have:=dvf_hi j k (fun i hi=>h i (by omega));have h2:=h (j+k) (by omega);rw[←Nat.add_assoc,dvf,Nat.pow_succ,←Nat.mul_assoc];omega
theorem dvf_div {f:Nat→Nat}{n:Nat}(hok:Ok f n)(j:Nat)(hj:j≤n):dvf f n/10^(n-j)=dvf f j:=by
 have e:j+(n-j)=n:=(by omega);have h1:=dvf_lo f j (n-j);have h2:=dvf_hi j (n-j) (by rw[e];exact hok);rw[e]at h1 h2;exact Nat.div_eq_of_lt_le h1 h2
theorem dvf_lt {f:Nat→Nat}{n:Nat}(hok:Ok f n):dvf f n<10^n:=by
 have:=dvf_hi (f:=f) 0 n (by rw[Nat.zero_add];exact hok);rw[Nat.zero_add,dvf,Nat.zero_add,Nat.one_mul]at this;exact this
theorem dvf_ge {f:Nat→Nat}{n:Nat}(h0:0<n)(h:49≤f 0):10^(n-1)≤dvf f n:=by
 have h1:=dvf_lo f 1 (n-1);rw[show 1+(n-1)=n by omega]at h1;have:1≤dvf f 1:=(by rw[dvf,dvf];omega);exact Nat.le_trans (Nat.le_mul_of_pos_left _ this) h1
def LessP (f:Nat→Nat)(n:Nat)(s:Nat→Nat)(L:Nat):Prop:=dvf f n*10^L<dvf s L*10^n
section
variable {f s:Nat→Nat} {n L:Nat}
theorem pl_all (hL:L≤n)(h:∀i,i<L→f i=s i):¬ LessP f n s L:=by
 unfold LessP;have h1:=dvf_lo f L (n-L);rw[show L+(n-L)=n by omega,dvf_congr L h]at h1;have h2:=Nat.mul_le_mul_right (10^L) h1;rw[Nat.mul_assoc,←Nat.pow_add,show n-L+L=n by omega]at h2;omega
theorem pl_short (hn:n<L)(h:∀i,i<n→f i=s i)(hl:49≤s (L-1)):LessP f n s L:=by
 unfold LessP;have h1:=dvf_lo s n (L-1-n);rw[show n+(L-1-n)=L-1 by omega,←dvf_congr n h]at h1;have h2:dvf s L=dvf s (L-1)*10+(s (L-1)-48):=by
  have e:dvf s (L-1+1)=dvf s (L-1)*10+(s (L-1)-48):=rfl;rw[show L-1+1=L by omega]at e;exact e
 have h3:dvf f n*10^(L-n)<dvf s L:=by
  rw[show L-n=L-1-n+1 by omega,Nat.pow_succ,←Nat.mul_assoc,h2];omega
 have h4:=Nat.mul_lt_mul_of_pos_right h3 (show 0<10^n from Nat.pow_pos (by decide));rw[Nat.mul_assoc,←Nat.pow_add,show L-n+n=L by omega]at h4;exact h4
theorem pl_lt (hf:Ok f n)(i:Nat)(hn:i<n)(hL:i<L)(h:∀j,j<i→f j=s j)(hi:f i<s i)(hfi:48≤f i):LessP f n s L:=by
 unfold LessP;have e1:i+1+(n-(i+1))=n:=(by omega);have e2:i+1+(L-(i+1))=L:=(by omega);have h1:=dvf_hi (f:=f) (i+1) (n-(i+1)) (by rw[e1];exact hf);have h2:=dvf_lo s (i+1) (L-(i+1));rw[e1]at h1;rw[e2]at h2;have h3:dvf f (i+1)+1≤dvf s (i+1):=(by rw[dvf,dvf,dvf_congr i h];omega);have h4:=Nat.mul_le_mul_right (10^(n-(i+1))) h3;have h5:dvf f n*10^L<dvf s (i+1)*10^(n-(i+1))*10^L:=Nat.mul_lt_mul_of_pos_right (by omega) (Nat.pow_pos (by decide));have h6:=Nat.mul_le_mul_right (10^n) h2;have e3:dvf s (i+1)*10^(n-(i+1))*10^L=dvf s (i+1)*10^(L-(i+1))*10^n:=by
  rw[Nat.mul_assoc,Nat.mul_assoc,←Nat.pow_add,←Nat.pow_add];congr 2;omega
 omega
theorem pl_gt (hs:Ok s L)(i:Nat)(hn:i<n)(hL:i<L)(h:∀j,j<i→f j=s j)(hi:s i<f i)(hsi:48≤s i):¬ LessP f n s L:=by
 have:=pl_lt (f:=s) (s:=f) (n:=L) (L:=n) hs i hL hn (fun j hj=>(h j hj).symm) hi hsi;unfold LessP at *;omega
end
def chD (k:Nat):Nat:=(Pinned.cheatRows.getD k (0,[])).1
def chS (k:Nat):List UInt8:=(Pinned.cheatRows.getD k (0,[])).2
def fOf (l:List UInt8)(i:Nat):Nat:=(l.getD i 0).toNat
def chOk (k:Nat):Bool:=(dvf (fOf (chS k)) (chS k).length==5^k) && ((chS k).length+chD k==k+1) && decide (1≤chD k) && decide (49≤fOf (chS k) ((chS k).length-1)) && (chS k).all (fun c=>decide (48≤c.toNat) && decide (c.toNat≤57)) && decide (2^k<10^chD k) && decide (10^(chD k-1)≤2^k) && decide (1≤(chS k).length)
theorem ch_all:((List.range 61).all fun k=>k==0 ||chOk k)=true:=by decide +kernel
structure Ch (k:Nat):Prop where
 v:dvf (fOf (chS k)) (chS k).length=5^k
 l:(chS k).length+chD k=k+1
 d1:1≤chD k
 ls:49≤fOf (chS k) ((chS k).length-1)
 ok:Ok (fOf (chS k)) (chS k).length
 hi:2^k<10^chD k
 lo:10^(chD k-1)≤2^k
 s1:1≤(chS k).length
theorem ch_at {k:Nat}(h1:1≤k)(h2:k≤60):Ch k:=by
 have h:=List.all_eq_true.1 ch_all k (List.mem_range.2 (by omega));rw[Bool.or_eq_true]at h;have h:=h.resolve_left (by rw[beq_iff_eq];omega);unfold chOk at h;simp only[Bool.and_eq_true,beq_iff_eq,decide_eq_true_eq,List.all_eq_true]at h;obtain⟨⟨⟨⟨⟨⟨⟨a,b⟩,c⟩,d⟩,e⟩,g⟩,i⟩,j⟩:=h;refine⟨a,b,c,d,fun x hx=>?_,g,i,j⟩;unfold fOf;rw[List.getD_eq_getElem?_getD,List.getElem?_eq_getElem hx];exact e _ (List.getElem_mem hx)
def newD (f:Nat→Nat)(nd k:Nat):Nat:=if dvf f nd*10^(chS k).length<5^k*10^nd then nd+chD k-1 else nd+chD k
theorem newD_bd {f:Nat→Nat}{nd k:Nat}(C:Ch k)(hok:Ok f nd)(h0:0<nd)(hf:49≤f 0):10^(newD f nd k-1)≤dvf f nd*2^k∧dvf f nd*2^k<10^newD f nd k∧nd≤newD f nd k∧newD f nd k≤nd+chD k:=by
 have hv1:=dvf_ge h0 hf;have hv2:=dvf_lt hok;have hd1:=C.d1;have hP:0<10^(chS k).length:=Nat.pow_pos (by decide);have e10:5^k*2^k=10^k:=(by rw[←Nat.mul_pow]);have hl:=C.l;unfold newD;generalize (chS k).length=L at *;have key:∀x,x*10^L*2^k=x*2^k*10^L:=fun x=>Nat.mul_right_comm _ _ _
 have key2:5^k*10^nd*2^k=10^(nd+chD k-1)*10^L:=by
  rw[Nat.mul_right_comm,e10,←Nat.pow_add,←Nat.pow_add];congr 1;omega
 split
 ·rename_i hc
  have h1:=Nat.mul_lt_mul_of_pos_right hc (Nat.two_pow_pos k);rw[key,key2]at h1;have h2:=Nat.lt_of_mul_lt_mul_right h1;refine⟨?_,h2,by omega,by omega⟩;have h3:=Nat.mul_le_mul hv1 C.lo;rw[←Nat.pow_add]at h3;have e:nd-1+(chD k-1)=nd+chD k-1-1:=(by omega);rw[e]at h3;exact h3
 ·rename_i hc
  have h1:=Nat.mul_le_mul_right (2^k) (Nat.le_of_not_lt hc);rw[key,key2]at h1;have h2:=Nat.le_of_mul_le_mul_right h1 hP;refine⟨h2,?_,by omega,by omega⟩;have h3:=Nat.mul_lt_mul_of_lt_of_le hv2 (Nat.le_of_lt C.hi) (Nat.pow_pos (by decide));rw[←Nat.pow_add]at h3;exact h3
def LG (g:Nat→Nat)(T i a:Nat):Prop:=∀j,i-a≤j→j<min i 800→g j=48+T/10^(i-1-j)%10
def LT (tr:Bool)(T i a:Nat):Bool:=tr ||decide (T%10^(min a (i-800))≠0)
theorem LG.start (g:Nat→Nat)(T i:Nat):LG g T i 0:=fun j h1 h2=>absurd h2 (by omega)
theorem LT.start (tr:Bool)(T i:Nat):LT tr T i 0=tr:=by
 unfold LT;rw[Nat.zero_min,Nat.pow_zero,Nat.mod_one];simp
theorem LG.put {g:Nat→Nat}{T i a x:Nat}(h:LG g T i a)(ha:a<i)(hx:x=48+T/10^a%10):LG (fun j=>if j=i-(a+1) then x else g j) T i (a+1):=by
 intro j h1 h2;show (if j=i-(a+1) then x else g j)=_
 by_cases e:j=i-(a+1)
 ·rw[if_pos e,hx,show i-1-j=a by omega]
 ·rw[if_neg e];exact h j (by omega) h2
theorem LG.skip {g:Nat→Nat}{T i a:Nat}(h:LG g T i a)(h8:800≤i-(a+1)):LG g T i (a+1):=fun j h1 h2=>h j (by omega) h2
theorem LT.put {tr:Bool}{T i a:Nat}(h8:i-(a+1)<800)(ha:a<i):LT tr T i (a+1)=LT tr T i a:=by
 unfold LT;rw[show min (a+1) (i-800)=min a (i-800) by omega]
theorem mod_up (T a:Nat):T%10^(a+1)=T%10^a+10^a*(T/10^a%10):=by
 rw[Nat.pow_succ,Nat.mod_mul]
theorem LT.zero {tr:Bool}{T i a:Nat}(h8:800≤i-(a+1))(h:T/10^a%10=0):LT tr T i (a+1)=LT tr T i a:=by
 unfold LT;rw[show min (a+1) (i-800)=a+1 by omega,show min a (i-800)=a by omega,mod_up,h,Nat.mul_zero,Nat.add_zero]
theorem LT.one {tr:Bool}{T i a:Nat}(h8:800≤i-(a+1))(h:T/10^a%10≠0):LT tr T i (a+1)=true:=by
 unfold LT;rw[show min (a+1) (i-800)=a+1 by omega,mod_up,decide_eq_true,Bool.or_true];have:0<10^a*(T/10^a%10):=Nat.mul_pos (Nat.pow_pos (by decide)) (by omega);omega
theorem carry (v K a:Nat):(v%10^(a+1))*K/10^a=(v%10^a)*K/10^a+(v/10^a%10)*K:=by
 have hp:0<10^a:=Nat.pow_pos (by decide);rw[mod_up,Nat.add_mul,Nat.mul_assoc,Nat.add_mul_div_left _ _ hp]
theorem carry_next (v K a:Nat):(v%10^(a+1))*K/10^a/10=(v%10^(a+1))*K/10^(a+1):=by
 rw[Nat.div_div_eq_div_mul,Nat.pow_succ]
theorem carry_digit (v K a:Nat):(v%10^(a+1))*K/10^a%10=v*K/10^a%10:=by
 have hp:0<10^a:=Nat.pow_pos (by decide);have e:v*K=(v%10^(a+1))*K+10^a*(10*(v/10^(a+1)*K)):=by
  have h:=Nat.div_add_mod v (10^(a+1));have h2:10^(a+1)*(v/10^(a+1))*K=10^a*(10*(v/10^(a+1)*K)):=by
   rw[Nat.pow_succ];ac_rfl
  calc v*K=(10^(a+1)*(v/10^(a+1))+v%10^(a+1))*K:=by rw[h]
   _=_:=by rw[Nat.add_mul,h2,Nat.add_comm]
 rw[e,Nat.add_mul_div_left _ _ hp,Nat.add_mul_mod_self_left]
theorem carry_lt (v K a:Nat)(hK:0<K):(v%10^a)*K/10^a<K:=by
 have hp:0<10^a:=Nat.pow_pos (by decide);apply Nat.div_lt_of_lt_mul;exact Nat.mul_lt_mul_of_pos_right (Nat.mod_lt _ hp) hK
theorem top_next (T a:Nat):T/10^a/10=T/10^(a+1):=by rw[Nat.div_div_eq_div_mul,Nat.pow_succ]
end DN
end Go.Proofs.YtieknenhfeejiaaGreatDoor
namespace Go.Proofs.YtieknenhfeejiaaGreatDoor
open _root_.Go.Proofs.Tryz
namespace DN
open FS
theorem X_def (n:Nat):(10:Nat)^n=X n:=rfl
theorem Z_def (n:Nat):(2:Nat)^n=Z n:=rfl
theorem Z_one:(2:Nat)=Z 1:=rfl
theorem X_one:(10:Nat)=X 1:=rfl
theorem Z_53:9007199254740992=Z 53:=rfl
theorem Z_54:18014398509481984=Z 54:=rfl
theorem X_five (d:Nat):X d=5^d*Z d:=by unfold X Z;rw[←Nat.mul_pow]
theorem Z_le_X (d:Nat):Z d≤X d:=Nat.pow_le_pow_left (by decide) d
theorem lt_Z (d:Nat):d<Z d:=Nat.lt_two_pow_self
def five (k:Nat):Nat:=5^k
theorem five_305:five 305≤Z 716:=by decide +kernel
theorem five_le {a b:Nat}(h:a≤b):five a≤five b:=Nat.pow_le_pow_right (by decide) h
theorem X_five' (d:Nat):X d=five d*Z d:=X_five d
attribute [local irreducible] X Z five
theorem int_lt_or (a b:Int):a<b∨b≤a:=by omega
def SV (v:Nat)(p e:Int):Nat:=v*X (p+3000).toNat * Z (e+3000).toNat
structure Keep (xh G s:Nat)(tr:Bool):Prop where
 le:s≤xh
 eq:tr=false→s=xh
 lt:tr=true→s<xh
 gr:∀h,h*G≤xh→h*G≤s
theorem Keep.cut {xh G s:Nat}{tr:Bool}(k:Keep xh G s tr){Q i U:Nat}(hU:0<U)(he:s*10^(i-800)=Q*U)(hG:800<i→∃c,G=U*c) :
  Keep xh G (Q/10^(i-800)*U) (tr ||decide (Q%10^(i-800)≠0)):=by
 have hT:0<10^(i-800):=Nat.pow_pos (by decide);obtain⟨T,hTe⟩:∃T,T=10^(i-800):=⟨_,rfl⟩
 have hi:¬ 800<i→T=1:=fun h=>by rw[hTe,show i-800=0 by omega,Nat.pow_zero]
 rw[←hTe]at he hT ⊢;have hdm:=Nat.div_add_mod Q T;have hm:=Nat.mod_lt Q hT;obtain⟨q,hq⟩:∃q,q=Q/T:=⟨_,rfl⟩
 obtain⟨r,hr⟩:∃r,r=Q%T:=⟨_,rfl⟩
 rw[←hq,←hr]at hdm;rw[←hr]at hm;rw[←hq,←hr];have e1:s*T=q*U*T+r*U:=by
  rw[he,←hdm,Nat.add_mul,Nat.mul_comm T q,Nat.mul_right_comm]
 have hle:q*U≤s:=Nat.le_of_mul_le_mul_right (by omega) hT;have hlt:s<q*U+U:=by
  have:r*U<T*U:=Nat.mul_lt_mul_of_pos_right hm hU;have h2:(q*U+U)*T=q*U*T+T*U:=(by rw[Nat.add_mul,Nat.mul_comm U T]);exact Nat.lt_of_mul_lt_mul_right (a:=T) (by omega)
 have hr0:r=0→s=q*U:=fun h=>by
  rw[h,Nat.zero_mul,Nat.add_zero]at e1;exact Nat.mul_right_cancel hT e1
 have hr1:r≠0→q*U<s:=fun h=>by
  have:0<r*U:=Nat.mul_pos (by omega) hU;exact Nat.lt_of_mul_lt_mul_right (a:=T) (by omega)
 refine⟨Nat.le_trans hle k.le,fun h=>?_,fun h=>?_,fun h hh=>?_⟩
 ·rw[Bool.or_eq_false_iff]at h
  have:r=0:=(by simpa using h.2);rw[←hr0 this];exact k.eq h.1
 ·by_cases c:r=0
  ·have:tr=true:=by simpa[c] using h
   rw[←hr0 c];exact k.lt this
  ·exact Nat.lt_of_lt_of_le (hr1 c) k.le
 ·have h1:=k.gr h hh
  by_cases c:800<i
  ·obtain⟨x,hx⟩:=hG c
   have e2:h*G=h*x*U:=(by rw[hx];ac_rfl);rw[e2]at h1 ⊢;have:h*x*U<(q+1)*U:=(by rw[Nat.add_mul,Nat.one_mul];omega);have:=Nat.lt_of_mul_lt_mul_right this;exact Nat.mul_le_mul_right _ (by omega)
  ·have h1':=hi c
   have:r=0:=(by rw[h1']at hm;omega);rw[←hr0 this];exact h1
theorem cut_val {g:Nat→Nat}{Q i m:Nat}(hi:1≤i)(h1:10^(i-1)≤Q)(h2:Q<10^i)(hg:∀j,j<min i 800→g j=48+Q/10^(i-1-j)%10)(hm:m≤min i 800)(hz:∀j,m≤j→j<min i 800→g j=48) :
  dvf g m*10^(min i 800-m)=Q/10^(i-800)∧1≤m∧Ok g m∧49≤g 0:=by
 have h0:49≤g 0:=by
  have e:=hg 0 (by omega);rw[Nat.sub_zero]at e;have hp:0<10^(i-1):=Nat.pow_pos (by decide);have a:1≤Q/10^(i-1):=(Nat.one_le_div_iff hp).2 h1;have b:Q/10^(i-1)<10:=by
   apply Nat.div_lt_of_lt_mul;have e1:10^(i-1+1)=10^(i-1)*10:=Nat.pow_succ ..;rw[show i-1+1=i by omega]at e1;omega
  rw[Nat.mod_eq_of_lt b]at e;omega
 refine⟨?_,?_,fun j hj=>?_,h0⟩
 ·have a:=dvf_digits (f:=g) h2 (min i 800) (by omega) (fun j hj=>hg j hj)
  have b:=dvf_zeros (f:=g) (m:=m) (min i 800-m) (fun j h1 h2=>hz j h1 (by omega));rw[show m+(min i 800-m)=min i 800 by omega]at b;rw[←b,a,show i-min i 800=i-800 by omega]
 ·rcases Nat.eq_zero_or_pos m with c|c
  ·have:=hz 0 (by omega) (by omega);omega
  ·exact c
 ·have:=hg j (by omega)
  have h10:=Nat.mod_lt (Q/10^(i-1-j)) (show 0<10 by decide);omega
theorem SV_pos (p e:Int):0<SV 1 p e:=Nat.mul_pos (Nat.mul_pos (by decide) (X_pos _)) (Z_pos _)
theorem SV_mul (v:Nat)(p e:Int):SV v p e=v*SV 1 p e:=by unfold SV;rw[Nat.one_mul,Nat.mul_assoc]
theorem SV_p {v:Nat}{p p' e:Int}(h:p=p'):SV v p e=SV v p' e:=by rw[h]
theorem SV_ten {v n:Nat}{p e:Int}(hp:0≤p+3000):SV (v*10^n) p e=SV v (p+n) e:=by
 unfold SV;have e1:(p+n+3000).toNat=n+(p+3000).toNat:=(by omega);rw[e1,←X_mul];rw[X_def];ac_rfl
structure SS (xh G:Nat)(f:Nat→Nat)(nd:Nat)(dp:Int)(tr:Bool)(e:Int):Prop where
 n1:1≤nd
 n8:nd≤800
 ok:Ok f nd
 f0:49≤f 0
 kp:Keep xh G (SV (dvf f nd) (dp-nd) e) tr
theorem SS.vpos {xh G:Nat}{f:Nat→Nat}{nd:Nat}{dp:Int}{tr:Bool}{e:Int}(S:SS xh G f nd dp tr e):0<dvf f nd:=
 Nat.lt_of_lt_of_le (Nat.pow_pos (by decide)) (dvf_ge S.n1 S.f0)
theorem SS.lo {xh G:Nat}{f:Nat→Nat}{nd:Nat}{dp:Int}{tr:Bool}{e:Int}(S:SS xh G f nd dp tr e)(hd : -2100≤dp):SV 1 (dp-1) e≤SV (dvf f nd) (dp-nd) e:=by
 have h:=dvf_ge S.n1 S.f0;have h8:=S.n8;have h1:=S.n1;have e1:dp-1=dp-nd+(nd-1:Nat):=(by omega);rw[e1,←SV_ten (by omega),Nat.one_mul,SV_mul (10^(nd-1)),SV_mul (dvf f nd)];exact Nat.mul_le_mul_right _ h
theorem SS.hi {xh G:Nat}{f:Nat→Nat}{nd:Nat}{dp:Int}{tr:Bool}{e:Int}(S:SS xh G f nd dp tr e)(hd : -2100≤dp):SV (dvf f nd) (dp-nd) e<SV 1 dp e:=by
 have h:=dvf_lt S.ok;have h8:=S.n8;have e1:dp=dp-nd+nd:=by omega
 conv=>rhs;rw[e1]
 rw[←SV_ten (by omega),Nat.one_mul,SV_mul (10^nd),SV_mul (dvf f nd)];exact Nat.mul_lt_mul_of_pos_right h (SV_pos _ _)
theorem SS.shift {xh G:Nat}{f:Nat→Nat}{nd:Nat}{dp:Int}{tr:Bool}{e:Int}(S:SS xh G f nd dp tr e){g:Nat→Nat}{Q i m:Nat}{dp' e':Int}
  (hi:1≤i)(h1:10^(i-1)≤Q)(h2:Q<10^i)(hg:∀j,j<min i 800→g j=48+Q/10^(i-1-j)%10)(hm:m≤min i 800)(hz:∀j,m≤j→j<min i 800→g j=48)
  (hdp : -2100≤dp')(he:SV (dvf f nd) (dp-nd) e*10^(i-800)=Q*SV 1 (dp'-(min i 800:Nat)) e')(hG:800<i→∃c,G=SV 1 (dp'-(min i 800:Nat)) e'*c) :
  SS xh G g m dp' (tr ||decide (Q%10^(i-800)≠0)) e':=by
 obtain⟨a,b,c,d⟩:=cut_val hi h1 h2 hg hm hz;refine⟨b,by omega,c,d,?_⟩;have k:=S.kp.cut (SV_pos _ _) he hG;have ev:Q/10^(i-800)*SV 1 (dp'-(min i 800:Nat)) e'=SV (dvf g m) (dp'-m) e':=by
  rw[←SV_mul,←a,SV_ten (by omega)];exact SV_p (by omega)
 rw[ev]at k;exact k
theorem right_exact {v Q k y a b c d:Nat}(z:Nat)(h:v*10^c=10^d*2^k*Q)(hab:a+y+d=b+c):v*10^a*z*10^y=Q*10^b*(z*2^k):=by
 have hp:0<10^d:=Nat.pow_pos (by decide);apply Nat.mul_right_cancel hp;have e1:v*10^a*z*10^y*10^d=v*(10^a*10^y*10^d)*z:=(by ac_rfl);have e2:Q*10^b*(z*2^k)*10^d=(10^d*2^k*Q)*10^b*z:=(by ac_rfl);rw[e1,e2,←h,←Nat.pow_add,←Nat.pow_add,hab,Nat.pow_add];ac_rfl
theorem right_exactX {v Q k y a b c d:Nat}(z:Nat)(h:v*10^c=10^d*2^k*Q)(hab:a+y+d=b+c):v*X a*z*10^y=Q*X b*(z*2^k):=by
 rw[←X_def a,←X_def b];exact right_exact z h hab
theorem ten_two (x:Nat)(h:x≤305):X x≤Z (716+x):=by
 have e:X x=five x*Z x:=X_five' x;have h5:five x≤five 305:=five_le h;rw[e,←Z_mul 716 x];exact Nat.mul_le_mul_right _ (Nat.le_trans h5 five_305)
theorem grid_ok {xh j:Nat}{dp e:Int}(hx:xh<Z (j+1979)*X 3000)(hlo:SV 1 (dp-1) e≤xh)(he:e≤j)(he2 : -1200≤e)(hd : -2100≤dp)(hd2:dp≤800):∃c,Z (j+1895)*X 3000=SV 1 (dp-800) e*c:=by
 have key:e+dp≤(j:Int)-305:=by
  rcases int_lt_or ((j:Int)-305) (e+dp) with c|c
  rotate_left
  ·exact c
  exfalso;unfold SV at hlo;rw[Nat.one_mul]at hlo;have hlt:=Nat.lt_of_le_of_lt hlo hx;obtain⟨E,hE⟩:∃E:Nat,(E:Int)=e+3000:=⟨(e+3000).toNat,by omega⟩
  by_cases ht:e+1105≤(j:Int)+800
  ·
   have h1:X 3000*Z (j+1979)≤X (dp-1+3000).toNat * Z (e+3000).toNat:=by
    by_cases c1:(j:Int)+1979≤e+3000
    ·exact Nat.mul_le_mul (X_mono (by omega)) (Z_mono' (by omega))
    ·obtain⟨d,hd⟩:∃d:Nat,(d:Int)=j+1979-(e+3000):=⟨((j:Int)+1979-(e+3000)).toNat,by omega⟩
     have e1:j+1979=d+(e+3000).toNat:=(by omega);rw[e1,←Z_mul d (e+3000).toNat,←Nat.mul_assoc];refine Nat.mul_le_mul_right _ ?_;have h2:Z d≤X d:=Z_le_X d;refine Nat.le_trans (Nat.mul_le_mul_left _ h2) ?_;rw[X_mul];exact X_mono (by omega)
   rw[Nat.mul_comm]at h1;omega
  ·obtain⟨x,hx⟩:∃x:Nat,(x:Int)=e+1105-j-800:=⟨(e+1105-j-800).toNat,by omega⟩
   have h3:=ten_two x (by omega);have e2:(e+3000).toNat=716+x+(j+1979):=(by omega);have h4:X (3000-x)*X x=X 3000:=(by rw[X_mul];exact congrArg X (by omega));have h5:X (3000-x)≤X (dp-1+3000).toNat:=X_mono (by omega);have h6:X 3000*Z (j+1979)≤X (dp-1+3000).toNat * Z (e+3000).toNat:=by
    rw[e2,←Z_mul (716+x) (j+1979),←Nat.mul_assoc,←h4];refine Nat.mul_le_mul_right _ (Nat.mul_le_mul h5 h3)
   rw[Nat.mul_comm]at h6;omega
 unfold SV;rw[Nat.one_mul];obtain⟨a,ha⟩:∃a:Nat,a=(dp-800+3000).toNat:=⟨_,rfl⟩
 obtain⟨E,hE⟩:∃E:Nat,E=(e+3000).toNat:=⟨_,rfl⟩
 rw[←ha,←hE];have e3:X 3000=X a*X (3000-a):=(by rw[X_mul];exact congrArg X (by omega));by_cases c:E≤j+1895
 ·refine⟨X (3000-a)*Z (j+1895-E),?_⟩
  have e4:Z (j+1895)=Z E*Z (j+1895-E):=(by rw[Z_mul];exact congrArg Z (by omega));rw[e3,e4];generalize X a=x1;generalize X (3000-a)=x2;generalize Z E=x3;generalize Z (j+1895-E)=x4
  ac_rfl
 ·
  obtain⟨d,hd⟩:∃d:Nat,E=j+1895+d:=⟨E-(j+1895),by omega⟩
  have e5:X (3000-a)=X (3000-a-d)*(5^d*Z d):=by
   have:X d=5^d*Z d:=X_five d;rw[←this,X_mul];exact congrArg X (by omega)
  refine⟨X (3000-a-d)*5^d,?_⟩;rw[e3,e5,hd,←Z_mul (j+1895) d];generalize X a=x1;generalize X (3000-a-d)=x2;generalize Z (j+1895)=x3;generalize Z d=x4
  ac_rfl
end DN
end Go.Proofs.YtieknenhfeejiaaGreatDoor
namespace Go.Proofs.YtieknenhfeejiaaGreatDoor
open _root_.Go.Proofs.Tryz
namespace DN
open FS
attribute [local irreducible] X Z
def HH (K:Nat):Nat:=Z (K+1925)*X 3000
def WW:Nat:=X 3000*Z 3000
theorem HH_pos (K:Nat):0<HH K:=Nat.mul_pos (Z_pos _) (X_pos _)
theorem WW_pos:0<WW:=Nat.mul_pos (X_pos _) (Z_pos _)
theorem HH_eq (K:Nat):Z K*WW=HH K*Z 1075:=by
 unfold HH WW;have:Z K*Z 3000=Z (K+1925)*Z 1075:=by rw[Z_mul,Z_mul]
 calc Z K*(X 3000*Z 3000)=Z K*Z 3000*X 3000:=by ac_rfl
  _=_:=by rw[this];ac_rfl
theorem HH_cmp (c K xh:Nat):(c*Z K*WW<xh*Z 1075↔c*HH K<xh)∧(c*Z K*WW=xh*Z 1075↔c*HH K=xh)∧(xh*Z 1075<c*Z K*WW↔xh<c*HH K)∧(c*Z K*WW≤xh*Z 1075↔c*HH K≤xh):=by
 have e:c*Z K*WW=c*HH K*Z 1075:=(by rw[Nat.mul_assoc,HH_eq,←Nat.mul_assoc]);have hz:=Z_pos 1075;rw[e];exact⟨Nat.mul_lt_mul_right hz,Nat.mul_left_inj (Nat.pos_iff_ne_zero.1 hz),Nat.mul_lt_mul_right hz,Nat.mul_le_mul_right_iff hz⟩
theorem rnd_at {xh K k:Nat}(hk:k≤9007199254740992)(h1:K=0∨9007199254740992*HH K≤xh)(h2:xh<18014398509481984*HH K)
  (lo:k=0∨(2*k-1)*HH K<xh∨((2*k-1)*HH K=xh∧k%2=0))(hi:xh<(2*k+1)*HH K∨(xh=(2*k+1)*HH K∧k%2=0)) :
  Rnd xh WW (min (K*4503599627370496+k) INF):=by
 refine rnd_of WW_pos hk ?_ ?_ ?_ ?_
 ·rw[(HH_cmp _ _ _).2.2.2];exact h1
 ·rw[(HH_cmp _ _ _).2.2.1];exact h2
 ·rw[(HH_cmp _ _ _).1,(HH_cmp _ _ _).2.1];exact lo
 ·rw[(HH_cmp _ _ _).2.2.1,eq_comm (a:=xh*Z 1075),(HH_cmp _ _ _).2.1,eq_comm (b:=xh)];exact hi
theorem rung_to (xh:Nat)(m:Nat)(h:xh<18014398509481984*HH m):∃K,(K=0∨9007199254740992*HH K≤xh)∧xh<18014398509481984*HH K:=by
 induction m with
 |zero=>exact⟨0,.inl rfl,h⟩
 |succ m ih=>
  by_cases c:xh<18014398509481984*HH m
  ·exact ih c
  ·refine⟨m+1,.inr ?_,h⟩
   have e:HH (m+1)=2*HH m:=by
    unfold HH;rw[show m+1+1925=m+1925+1 by omega,Z_succ,Nat.mul_assoc]
   omega
theorem rung (xh:Nat):∃K,(K=0∨9007199254740992*HH K≤xh)∧xh<18014398509481984*HH K:=by
 refine rung_to xh xh ?_;have h1:xh<Z xh:=lt_Z xh;have h2:Z xh≤Z (xh+1925):=Z_mono' (by omega);have h3:Z (xh+1925)≤HH xh:=Nat.le_mul_of_pos_right _ (X_pos _);omega
def jj (K:Nat):Nat:=if K=0 then 0 else K+30
def GG (K:Nat):Nat:=Z (jj K+1895)*X 3000
theorem GG_HH (K:Nat):∃c,HH K=GG K*c:=by
 unfold HH GG jj;split
 ·rename_i h
  subst h;exact⟨Z 30,by rw[show 0+1925=0+1895+30 by omega,←Z_mul];ac_rfl⟩
 ·exact⟨1,by rw[Nat.mul_one]⟩
theorem HH_dvd {K L:Nat}(h:K≤L):∃c,HH L=HH K*c:=by
 obtain⟨d,rfl⟩:=Nat.le.dest h;exact⟨Z d,by unfold HH;rw[show K+d+1925=K+1925+d by omega,←Z_mul];ac_rfl⟩
theorem grid_x {xh K:Nat}(h:xh<18014398509481984*HH K):xh<Z (jj K+1979)*X 3000:=by
 have e:18014398509481984*HH K=Z (K+1979)*X 3000:=by
  unfold HH;rw[Z_54,←Nat.mul_assoc,Z_mul];exact congrArg (fun x=>Z x*X 3000) (by omega)
 rw[e]at h;refine Nat.lt_of_lt_of_le h (Nat.mul_le_mul_right _ (Z_mono' ?_));unfold jj;split<;>omega
theorem Keep.lt_of {xh G s c H h:Nat}{tr:Bool}(k:Keep xh G s tr)(hH:H=G*c)(hs:s<h*H):xh<h*H:=by
 rcases Nat.lt_or_ge xh (h*H) with q|q
 ·exact q
 exfalso;have e:h*H=h*c*G:=(by rw[hH];ac_rfl);rw[e]at q;have:=k.gr _ q;omega
def upB (f:Nat→Nat)(nd:Nat)(dp:Int)(tr:Bool):Bool:=
 decide (0≤dp∧dp<nd) && (if f dp.toNat=53∧dp+1=nd then tr ||(decide (0<dp) && decide (f (dp.toNat-1)%2=1)) else decide (53≤f dp.toNat))
def RI (f:Nat→Nat)(nd:Nat)(dp:Int)(tr:Bool):Nat:=pad f nd dp.toNat+if upB f nd dp tr then 1 else 0
theorem ri_split {f:Nat→Nat}{nd:Nat}{dp:Int}{K:Nat}(hok:Ok f nd)(h1:1≤nd)(h8:nd≤800)(hd : -2100≤dp)(hd2:dp≤20)(h0:49≤f 0)(hz:f (nd-1)≠48) :
  ∀s,s=SV (dvf f nd) (dp-nd) ((K:Int)-1074)→
  2*pad f nd dp.toNat * HH K≤s∧s<(2*pad f nd dp.toNat+2)*HH K∧
  ((0≤dp∧dp<nd∧f dp.toNat=53∧dp+1=nd∧s=(2*pad f nd dp.toNat+1)*HH K)∨
   ((dp<0∨(nd:Int)≤dp∨f dp.toNat<53)∧s<(2*pad f nd dp.toNat+1)*HH K)∨
   (0≤dp∧dp<nd∧53≤f dp.toNat∧¬ (f dp.toNat=53∧dp+1=nd)∧(2*pad f nd dp.toNat+1)*HH K<s)):=by
 intro s hs;have hH:=HH_pos K;have e2:Z (K+1926)*X 3000=2*HH K:=(by unfold HH;rw[show K+1926=K+1925+1 by omega,Z_succ];ac_rfl);have eZ:((K:Int)-1074+3000).toNat=K+1926:=(by omega);have hv:=dvf_lt hok;by_cases c1:dp<0
 ·
  have e0:dp.toNat=0:=(by omega);have hp0:pad f nd dp.toNat=0:=(by rw[e0,pad_le (Nat.zero_le _)];rfl);rw[hp0];have hlt:s*5<HH K*1:=by
   have a:s*10<2*HH K:=by
    rw[hs];unfold SV;rw[eZ,←e2];have b:dvf f nd*X (dp-nd+3000).toNat * 10<X 3000:=by
     have h1:dvf f nd*X (dp-nd+3000).toNat<10^nd*X (dp-nd+3000).toNat:=Nat.mul_lt_mul_of_pos_right hv (X_pos _);have h2:10^nd*X (dp-nd+3000).toNat * 10≤X 3000:=by
      have:(10:Nat)^nd*X (dp-nd+3000).toNat * 10=X (nd+(dp-nd+3000).toNat+1):=by
       rw[X_def,X_one,X_mul,X_mul]
      rw[this];exact X_mono (by omega)
     omega
    have h3:=Nat.mul_lt_mul_of_pos_right b (Z_pos (K+1926));have e3:dvf f nd*X (dp-nd+3000).toNat * Z (K+1926)*10=dvf f nd*X (dp-nd+3000).toNat * 10*Z (K+1926):=(by ac_rfl);rw[e3,Nat.mul_comm (Z _)];exact h3
   omega
  refine⟨by omega,by omega,.inr (.inl ⟨.inl c1,by omega⟩)⟩
 ·obtain⟨r,rfl⟩:∃r:Nat,dp=(r:Int):=⟨dp.toNat,by omega⟩
  rw[Int.toNat_natCast];by_cases c2:nd≤r
  ·have es:s=pad f nd r*(2*HH K):=by
    rw[hs];unfold SV;rw[eZ,←e2,pad_ge c2];have:X ((r:Int)-nd+3000).toNat=10^(r-nd)*X 3000:=by
     rw[X_def,X_mul];exact congrArg X (by omega)
    rw[this];ac_rfl
   have e3:pad f nd r*(2*HH K)=2*pad f nd r*HH K:=(by ac_rfl);rw[e3]at es;have e4:(2*pad f nd r+2)*HH K=2*pad f nd r*HH K+2*HH K:=Nat.add_mul ..;have e5:(2*pad f nd r+1)*HH K=2*pad f nd r*HH K+1*HH K:=Nat.add_mul ..;refine⟨by omega,by omega,.inr (.inl ⟨.inr (.inl (by omega)),by omega⟩)⟩
  ·have hr:r<nd:=by omega
   have hN:dvf f nd/10^(nd-r)=pad f nd r:=(by rw[pad_le (by omega)];exact dvf_div hok r (by omega));have hN1:dvf f nd/10^(nd-(r+1))=pad f nd r*10+(f r-48):=(by rw[dvf_div hok (r+1) (by omega),pad_le (by omega)];rfl);have hdm:=Nat.div_add_mod (dvf f nd) (10^(nd-r));have hdm1:=Nat.div_add_mod (dvf f nd) (10^(nd-(r+1)));have hP1:0<10^(nd-(r+1)):=Nat.pow_pos (by decide);have hm1:=Nat.mod_lt (dvf f nd) hP1;rw[hN]at hdm;rw[hN1]at hdm1;have eP:10^(nd-r)=10*10^(nd-(r+1)):=(by rw[show nd-r=nd-(r+1)+1 by omega,Nat.pow_succ,Nat.mul_comm]);obtain⟨u,hu⟩:∃u,u=X ((r:Int)-nd+3000).toNat * Z (K+1926):=⟨_,rfl⟩
   have hu0:0<u:=(by rw[hu];exact Nat.mul_pos (X_pos _) (Z_pos _));have eH:2*HH K=10^(nd-r)*u:=by
    rw[←e2,hu];have:X 3000=10^(nd-r)*X ((r:Int)-nd+3000).toNat:=by
     rw[X_def,X_mul];exact congrArg X (by omega)
    rw[this];ac_rfl
   have es:s=dvf f nd*u:=(by rw[hs,hu];unfold SV;rw[eZ,Nat.mul_assoc]);obtain⟨t1,ht1⟩:∃t1,t1=dvf f nd%10^(nd-(r+1)):=⟨_,rfl⟩
   rw[←ht1]at hdm1 hm1;obtain⟨P,hP⟩:∃P,P=10^(nd-(r+1)):=⟨_,rfl⟩
   rw[←hP]at hdm1 hm1 hP1 eP;obtain⟨N,hNN⟩:∃N,N=pad f nd r:=⟨_,rfl⟩
   rw[←hNN]at hdm1 ⊢;obtain⟨d,hd⟩:∃d,d=f r-48:=⟨_,rfl⟩
   have hfr:=hok r hr;rw[←hd]at hdm1;have ev:dvf f nd=N*(10*P)+(d*P+t1):=by
    rw[←hdm1,Nat.mul_comm P,Nat.add_mul,Nat.add_assoc];congr 1;ac_rfl
   have eHP:2*HH K=10*P*u:=(by rw[eH,eP]);have eHH:HH K=5*P*u:=by
    have:10*P*u=2*(5*P*u):=(by rw[show 10=2*5 from rfl];ac_rfl);omega
   have es2:s=2*N*HH K+(d*P+t1)*u:=by
    rw[es,ev,Nat.add_mul];congr 1;rw[eHH,show (10:Nat)=2*5 from rfl];ac_rfl
   have e4:(2*N+2)*HH K=2*N*HH K+2*HH K:=Nat.add_mul ..;have e5:(2*N+1)*HH K=2*N*HH K+HH K:=(by rw[Nat.add_mul,Nat.one_mul]);have hd9:d≤9:=(by omega);have hdP:d*P≤9*P:=Nat.mul_le_mul_right _ hd9;have hlt:(d*P+t1)*u<2*HH K:=by
    rw[eHP];exact Nat.mul_lt_mul_of_pos_right (by omega) hu0
   refine⟨by omega,by omega,?_⟩;by_cases c3:f r<53
   ·right;left
    refine⟨.inr (.inr c3),?_⟩;have:d*P≤4*P:=Nat.mul_le_mul_right _ (by omega);have h6:(d*P+t1)*u<5*P*u:=Nat.mul_lt_mul_of_pos_right (by omega) hu0;omega
   ·by_cases c4:f r=53∧(r:Int)+1=nd
    ·left
     obtain⟨c5,c6⟩:=c4;have hP':P=1:=(by rw[hP,show nd-(r+1)=0 by omega,Nat.pow_zero]);have ht0:t1=0:=(by omega);have hd5:d=5:=(by omega);refine⟨by omega,by omega,c5,c6,?_⟩;rw[es2,e5,eHH,hd5,ht0,Nat.add_zero]
    ·right;right
     refine⟨by omega,by omega,by omega,c4,?_⟩;have h6:5*P*u<(d*P+t1)*u:=by
      refine Nat.mul_lt_mul_of_pos_right ?_ hu0;by_cases c5:f r=53
      ·
       have hd5:d=5:=(by omega);have hn:r+1<nd:=(by omega);have:0<t1:=by
        rcases Nat.eq_zero_or_pos t1 with z|z
        ·exfalso
         rw[ht1]at z;have h7:=Nat.dvd_of_mod_eq_zero z;have h8:10 ∣ dvf f nd:=Nat.dvd_trans ⟨10^(nd-(r+1)-1),by rw[←Nat.pow_succ'];congr 1;omega⟩ h7;have h9:dvf f nd=dvf f (nd-1)*10+(f (nd-1)-48):=by
          have e:dvf f (nd-1+1)=dvf f (nd-1)*10+(f (nd-1)-48):=rfl;rw[show nd-1+1=nd by omega]at e;exact e
         have h10:=hok (nd-1) (by omega);omega
        ·exact z
       rw[hd5];omega
      ·have:6*P≤d*P:=Nat.mul_le_mul_right _ (by omega)
       omega
     omega
theorem rnd_fin {xh:Nat}{f:Nat→Nat}{nd:Nat}{dp:Int}{tr:Bool}{K:Nat}(S:SS xh (GG K) f nd dp tr ((K:Int)-1074))(hz:f (nd-1)≠48)(hd : -2100≤dp)(hd2:dp≤20)
  (h1:K=0∨9007199254740992*HH K≤xh)(h2:xh<18014398509481984*HH K):RI f nd dp tr≤9007199254740992∧Rnd xh WW (min (K*4503599627370496+RI f nd dp tr) INF)∧(K=0∨4503599627370496≤RI f nd dp tr):=by
 obtain⟨s,hs⟩:∃s,s=SV (dvf f nd) (dp-nd) ((K:Int)-1074):=⟨_,rfl⟩
 have kp:=S.kp;rw[←hs]at kp;obtain⟨a,b,c⟩:=ri_split (K:=K) S.ok S.n1 S.n8 hd hd2 S.f0 hz s hs;obtain⟨cc,hc⟩:=GG_HH K;have hH:=HH_pos K;have hpar:0≤dp→dp<nd→(pad f nd dp.toNat%2=1↔0<dp∧f (dp.toNat-1)%2=1):=fun q1 q2=>by
  obtain⟨r,rfl⟩:∃r:Nat,dp=(r:Int):=⟨dp.toNat,by omega⟩
  rw[Int.toNat_natCast,pad_le (by omega)];cases r with
  |zero=>simp[dvf]
  |succ r=>
   rw[dvf,Nat.add_sub_cancel];have:=S.ok r (by omega);omega
 have hR:RI f nd dp tr=pad f nd dp.toNat+if upB f nd dp tr then 1 else 0:=rfl
 generalize RI f nd dp tr=k at *;generalize pad f nd dp.toNat=N at *;have hle:=kp.le;have hub:=kp.lt_of hc b;have hNb:2*N<18014398509481984:=by
  have:2*N*HH K<18014398509481984*HH K:=(by omega);exact Nat.lt_of_mul_lt_mul_right this
 have e1:(2*N+1)*HH K=2*N*HH K+HH K:=(by rw[Nat.add_mul,Nat.one_mul]);have e2:(2*N+2)*HH K=2*N*HH K+2*HH K:=Nat.add_mul ..;have e3:(2*N+3)*HH K=2*N*HH K+3*HH K:=Nat.add_mul ..;have e4:N=0∨(2*N-1)*HH K+HH K=2*N*HH K:=by
  rcases Nat.eq_zero_or_pos N with z|z
  ·exact .inl z
  ·right
   rw[←Nat.succ_mul];congr 1;omega
 have hK52:K=0∨4503599627370496≤N:=by
  rcases h1 with z|z
  ·exact .inl z
  ·right
   have h6:=kp.gr (9007199254740992*cc) (by rw[Nat.mul_assoc,Nat.mul_comm cc,←hc];exact z);rw[Nat.mul_assoc,Nat.mul_comm cc,←hc]at h6;have:9007199254740992*HH K<(2*N+2)*HH K:=(by omega);have:=Nat.lt_of_mul_lt_mul_right this;omega
 have down:xh<(2*N+1)*HH K∨(xh=(2*N+1)*HH K∧N%2=0)→k=N→k≤9007199254740992∧Rnd xh WW (min (K*4503599627370496+k) INF)∧(K=0∨4503599627370496≤k):=fun q hk=>by
  subst hk;refine⟨by omega,rnd_at (by omega) h1 h2 ?_ q,hK52⟩;rcases e4 with z|z
  ·exact .inl z
  ·exact .inr (.inl (by omega))
 have up:(2*N+1)*HH K<xh∨((2*N+1)*HH K=xh∧N%2=1)→k=N+1→k≤9007199254740992∧Rnd xh WW (min (K*4503599627370496+k) INF)∧(K=0∨4503599627370496≤k):=fun q hk=>by
  subst hk;refine⟨by omega,rnd_at (by omega) h1 h2 (.inr ?_) (.inl ?_),by omega⟩
  ·rw[show 2*(N+1)-1=2*N+1 by omega]
   rcases q with q|⟨q,q2⟩
   ·exact .inl q
   ·exact .inr ⟨q,by omega⟩
  ·rw[show 2*(N+1)+1=2*N+3 by omega];omega
 rcases c with ⟨q1,q2,q3,q4,q5⟩|⟨q1,q2⟩|⟨q1,q2,q3,q4,q5⟩
 ·
  have hp:=hpar q1 q2;have hu:upB f nd dp tr=(tr ||decide (N%2=1)):=by
   unfold upB;rw[decide_eq_true (And.intro q1 q2),Bool.true_and,if_pos ⟨q3,q4⟩,←Bool.decide_and,decide_eq_decide.2 hp]
  rw[hu]at hR;cases tr with
  |true=>
   have:=kp.lt rfl;exact up (.inl (by omega)) (by rw[hR];simp)
  |false=>
   have:=kp.eq rfl;by_cases c:N%2=1
   ·exact up (.inr ⟨by omega,c⟩) (by rw[hR];simp[c])
   ·exact down (.inr ⟨by omega,by omega⟩) (by rw[hR];simp[c])
 ·have hu:upB f nd dp tr=false:=by
   unfold upB;by_cases c:0≤dp∧dp<nd
   ·have h53:f dp.toNat<53:=by omega
    rw[if_neg (by omega),decide_eq_false (p:=53≤f dp.toNat) (by omega),Bool.and_false]
   ·rw[decide_eq_false c,Bool.false_and]
  rw[hu]at hR;exact down (.inl (kp.lt_of hc q2)) (by rw[hR];rfl)
 ·have hu:upB f nd dp tr=true:=by
   unfold upB;rw[decide_eq_true (And.intro q1 q2),if_neg q4,decide_eq_true q3];rfl
  rw[hu]at hR;exact up (.inl (by omega)) (by rw[hR];rfl)
end DN
end Go.Proofs.YtieknenhfeejiaaGreatDoor
namespace Go.Proofs.YtieknenhfeejiaaGreatDoor
open _root_.Go.Proofs.Tryz
namespace DN
open FS
theorem facB:X 331≤Z 1105∧X 310≤Z 1030∧Z 1075<X 331∧Z 1024<X 310:=by decide +kernel
attribute [local irreducible] X Z
section
variable {xh K:Nat} {f g:Nat→Nat} {nd:Nat} {dp:Int} {tr:Bool} {e:Int}
theorem SS.shiftG (S:SS xh (GG K) f nd dp tr e)(h2:xh<18014398509481984*HH K){Q i m:Nat}{dp' e':Int}
  (hi:1≤i)(q1:10^(i-1)≤Q)(q2:Q<10^i)(hg:∀j,j<min i 800→g j=48+Q/10^(i-1-j)%10)(hm:m≤min i 800)(hz:∀j,m≤j→j<min i 800→g j=48)
  (hdp : -1200≤dp')(hdp2:dp'≤800)(he:SV (dvf f nd) (dp-nd) e*10^(i-800)=Q*SV 1 (dp'-(min i 800:Nat)) e')(hj:e'≤jj K)(hj2 : -1200≤e') :
  SS xh (GG K) g m dp' (tr ||decide (Q%10^(i-800)≠0)) e'∧SV (dvf g m) (dp'-m) e'≤SV (dvf f nd) (dp-nd) e:=by
 constructor
 ·refine S.shift hi q1 q2 hg hm hz (by omega) he fun h8=>?_
  have hT:0<10^(i-800):=Nat.pow_pos (by decide);have e1:((min i 800:Nat):Int)=800:=(by omega);rw[e1]at he ⊢;have hlo:SV 1 (dp'-1) e'≤xh:=by
   refine Nat.le_trans ?_ S.kp.le;refine Nat.le_of_mul_le_mul_right ?_ hT;rw[he];obtain⟨n,hn⟩:∃n:Nat,n=799:=⟨_,rfl⟩
   have e2:dp'-1=dp'-800+(n:Nat):=(by omega);rw[e2,←SV_ten (by omega),Nat.one_mul,SV_mul (10^n),Nat.mul_right_comm,←Nat.pow_add];refine Nat.mul_le_mul_right _ (Nat.le_trans ?_ q1);exact Nat.pow_le_pow_right (by decide) (by omega)
  exact grid_ok (grid_x h2) hlo hj hj2 (by omega) hdp2
 ·obtain⟨a,_,_,_⟩:=cut_val hi q1 q2 hg hm hz
  have hT:0<10^(i-800):=Nat.pow_pos (by decide);have ev:Q/10^(i-800)*SV 1 (dp'-(min i 800:Nat)) e'=SV (dvf g m) (dp'-m) e':=by
   rw[←SV_mul,←a,SV_ten (by omega)];exact SV_p (by omega)
  rw[←ev];refine Nat.le_of_mul_le_mul_right ?_ hT;rw[he,Nat.mul_right_comm];exact Nat.mul_le_mul_right _ (Nat.div_mul_le_self _ _)
theorem R_le {R k:Nat}(hok:Ok f nd)(h1:1≤nd)(h0:49≤f 0)(hk:k≤60)(hlo:pad f nd (R-1)<2^k):R≤20:=by
 rcases Nat.lt_or_ge 20 R with c|c
 ·exfalso
  have h60:2^k≤2^60:=Nat.pow_le_pow_right (by decide) hk;have:10^(R-2)≤pad f nd (R-1):=by
   by_cases c2:R-1≤nd
   ·rw[pad_le c2]
    have:=dvf_ge (f:=f) (n:=R-1) (by omega) h0;rw[show R-1-1=R-2 by omega]at this;exact this
   ·rw[pad_ge (by omega)]
    have:=Nat.mul_le_mul_right (10^(R-1-nd)) (dvf_ge (f:=f) (n:=nd) h1 h0);rw[←Nat.pow_add,show nd-1+(R-1-nd)=R-2 by omega]at this;exact this
  have h19:10^19≤10^(R-2):=Nat.pow_le_pow_right (by decide) (by omega);have:2^60<10^19:=(by decide);omega
 ·exact c
theorem SS.right (S:SS xh (GG K) f nd dp tr e)(h2:xh<18014398509481984*HH K){k R i m:Nat}(r1:1≤R)(i1:1≤i)(hk:k≤60)(hlo:pad f nd (R-1)<2^k)(hhi:2^k≤pad f nd R)(ex:pad f nd (R+i)%(10*2^k)=0)(ri:nd≤R+i)
  (dg:∀j,j<min i 800→g j=48+pad f nd (R+j)/2^k%10)(hm:m≤min i 800)(hz:∀j,m≤j→j<min i 800→g j=48)
  (hdp : -1100≤dp)(hdp2:dp≤800)(hj:e+k≤jj K)(hj2 : -1200≤e) :
  SS xh (GG K) g m (dp-R+1) (tr ||decide (pad f nd (R+i-1)/2^k%10^(i-800)≠0)) (e+k)∧R≤20:=by
 have hR:=R_le S.ok S.n1 S.f0 hk hlo;have h8:=S.n8;have hK:0<2^k:=Nat.two_pow_pos k;refine⟨?_,hR⟩;obtain⟨Q,hQ⟩:∃Q,Q=pad f nd (R+i-1)/2^k:=⟨_,rfl⟩
 rw[←hQ];have hq:∀j,j≤i-1→pad f nd (R+j)/2^k=Q/10^(i-1-j):=fun j hj=>by
  have:=quo_pre (f:=f) (nd:=nd) (R:=R) (K:=2^k) S.ok (i-1-j) j;rw[this,hQ,show j+(i-1-j)=i-1 by omega,show R+(i-1)=R+i-1 by omega]
 have hR10:pad f nd R<10*2^k:=by
  have e1:=pad_succ f nd (R-1);have e2:=dgt_lt S.ok (R-1);rw[show R-1+1=R by omega]at e1;omega
 have hQ0:=hq 0 (by omega);rw[Nat.add_zero,Nat.sub_zero]at hQ0;have hp1:0<10^(i-1):=Nat.pow_pos (by decide);have q1:10^(i-1)≤Q:=by
  rw[←Nat.one_le_div_iff hp1,←hQ0,Nat.one_le_div_iff hK];exact hhi
 have q2:Q<10^i:=by
  have:Q/10^(i-1)<10:=(by rw[←hQ0];exact Nat.div_lt_of_lt_mul (by rw[Nat.mul_comm];exact hR10));have:=(Nat.div_lt_iff_lt_mul hp1).1 this;rw[←Nat.pow_succ',show (i-1).succ=i by omega]at this;exact this
 have hdg:∀j,j<min i 800→g j=48+Q/10^(i-1-j)%10:=fun j hj=>by rw[dg j hj,hq j (by omega)]
 have hex:dvf f nd*10^(R+i-nd)=10^1*2^k*Q:=by
  have e1:=pad_succ f nd (R+i-1);have e2:=dgt_lt S.ok (R+i-1);rw[show R+i-1+1=R+i by omega]at e1;rw[e1,step_mod _ _ _ e2]at ex;have e3:pad f nd (R+i-1)=2^k*Q:=by
   have:=Nat.div_add_mod (pad f nd (R+i-1)) (2^k);rw[←hQ]at this;omega
  rw[←pad_ge ri,e1,e3,Nat.pow_one,Nat.mul_assoc];omega
 refine(S.shiftG h2 i1 q1 q2 hdg hm hz (by omega) (by omega) ?_ hj (by omega)).1;unfold SV;rw[Nat.one_mul];have e4:(e+k+3000).toNat=(e+3000).toNat+k:=(by omega);have e5:Z (e+k+3000).toNat=Z (e+3000).toNat * 2^k:=by
  rw[e4,←Z_mul,Z_def]
 rw[e5,←Nat.mul_assoc Q];exact right_exactX _ hex (by omega)
theorem SS.left (S:SS xh (GG K) f nd dp tr e)(h2:xh<18014398509481984*HH K){k m:Nat}(C:Ch k)(hk:k≤60)
  (dg:∀j,j<min (newD f nd k) 800→g j=48+dvf f nd*2^k/10^(newD f nd k-1-j)%10)(hm:m≤min (newD f nd k) 800)(hz:∀j,m≤j→j<min (newD f nd k) 800→g j=48)
  (hdp : -1100≤dp)(hdp2:dp≤700)(hj:e-k≤jj K)(hj2 : -1200≤e-k) :
  SS xh (GG K) g m (dp+(newD f nd k-nd:Nat)) (tr ||decide (dvf f nd*2^k%10^(newD f nd k-800)≠0)) (e-k)∧SV (dvf g m) (dp+(newD f nd k-nd:Nat)-m) (e-k)≤SV (dvf f nd) (dp-nd) e∧newD f nd k-nd≤19:=by
 obtain⟨b1,b2,b3,b4⟩:=newD_bd C S.ok S.n1 S.f0;have h8:=S.n8;have h1:=S.n1;have hl:=C.l;have hs:=C.s1;have hc19:chD k≤19:=by
  rcases Nat.lt_or_ge 19 (chD k) with c|c
  ·exfalso
   have h1:=C.lo;have h2:10^19≤10^(chD k-1):=Nat.pow_le_pow_right (by decide) (by omega);have h3:2^k≤2^60:=Nat.pow_le_pow_right (by decide) hk;have:2^60<10^19:=(by decide);omega
  ·exact c
 obtain⟨i,hi⟩:∃i,i=newD f nd k:=⟨_,rfl⟩
 rw[←hi]at b1 b2 b3 b4 dg hm hz ⊢;have key:=S.shiftG h2 (g:=g) (m:=m) (dp':=dp+(i-nd:Nat)) (e':=e-k) (by omega) b1 b2 dg hm hz (by omega) (by omega) ?_ hj hj2
 ·exact⟨key.1,key.2,by omega⟩
 ·unfold SV
  rw[Nat.one_mul];have e4:(e+3000).toNat=k+(e-k+3000).toNat:=(by omega);have e5:Z (e+3000).toNat=2^k*Z (e-k+3000).toNat:=by
   rw[e4,←Z_mul,Z_def]
  have e6:X (dp-nd+3000).toNat * 10^(i-800)=X (dp+(i-nd:Nat)-(min i 800:Nat)+3000).toNat:=by
   rw[X_def,X_mul];exact congrArg X (by omega)
  rw[e5,←e6];generalize X (dp-nd+3000).toNat=x1;generalize Z (e-k+3000).toNat=x2;generalize 10^(i-800)=x3;generalize 2^k=x4
  ac_rfl
structure Bd (xh K:Nat):Prop where
 r1:K=0∨9007199254740992*HH K≤xh
 r2:xh<18014398509481984*HH K
 lo:SV 1 (-331) 0≤xh
 hi:xh<SV 1 310 0
theorem Bd.gg (B:Bd xh K):GG K≤xh:=by
 rcases B.r1 with h|h
 ·refine Nat.le_trans ?_ B.lo
  unfold GG SV jj;rw[if_pos h,Nat.one_mul];have e1:X 3000=X 331*X 2669:=(by rw[X_mul]);have e2:Z 3000=Z 1105*Z 1895:=(by rw[Z_mul]);show Z (0+1895)*X 3000≤X 2669*Z 3000
  rw[e1,e2,Nat.zero_add];have:=Nat.mul_le_mul_left (Z 1895*X 2669) facB.1
  calc Z 1895*(X 331*X 2669)=Z 1895*X 2669*X 331:=by ac_rfl
   _≤Z 1895*X 2669*Z 1105:=this
   _=_:=by ac_rfl
 ·obtain⟨c,hc⟩:=GG_HH K
  have:0<c:=by
   rcases Nat.eq_zero_or_pos c with z|z
   ·have:=HH_pos K;rw[hc,z]at this;omega
   ·exact z
  have:GG K≤HH K:=(by rw[hc];exact Nat.le_mul_of_pos_right _ this);omega
theorem SS.gg (S:SS xh (GG K) f nd dp tr e)(B:Bd xh K):GG K≤SV (dvf f nd) (dp-nd) e:=by
 have:=S.kp.gr 1 (by rw[Nat.one_mul];exact B.gg);rw[Nat.one_mul]at this;exact this
theorem SS.e_hi (S:SS xh (GG K) f nd dp tr e)(B:Bd xh K)(hd:1≤dp)(he : -1200≤e):e<1030∧e<(jj K:Int)-1021:=by
 have h1:=Nat.le_trans (S.lo (by omega)) S.kp.le;have h2:X 3000*Z (e+3000).toNat≤SV 1 (dp-1) e:=by
  unfold SV;rw[Nat.one_mul];exact Nat.mul_le_mul_right _ (X_mono (by omega))
 constructor
 ·rcases int_lt_or e 1030 with c|c
  ·exact c
  exfalso;have h3:=B.hi;have h4:SV 1 310 0≤X 3000*Z (e+3000).toNat:=by
   unfold SV;rw[Nat.one_mul];show X 3310*Z 3000≤_
   have e1:X 3310=X 3000*X 310:=(by rw[X_mul]);have e2:Z (e+3000).toNat=Z (e+3000-3000).toNat * Z 3000:=(by rw[Z_mul];exact congrArg Z (by omega));rw[e1,e2,Nat.mul_assoc];exact Nat.mul_le_mul_left _ (Nat.mul_le_mul_right _ (Nat.le_trans facB.2.1 (Z_mono' (by omega))))
  omega
 ·rcases int_lt_or e ((jj K:Int)-1021) with c|c
  ·exact c
  exfalso;have h3:=grid_x B.r2;have h4:Z (jj K+1979)*X 3000≤X 3000*Z (e+3000).toNat:=by
   rw[Nat.mul_comm];exact Nat.mul_le_mul_left _ (Z_mono' (by omega))
  omega
theorem SS.e_lo (S:SS xh (GG K) f nd dp tr e)(B:Bd xh K)(hy:SV (dvf f nd) (dp-nd) e<SV 1 0 e) : -1105<e:=by
 have h1:=S.gg B;rcases int_lt_or (-1105) e with c|c
 ·exact c
 exfalso;have h2:SV 1 0 e≤GG K:=by
  unfold SV GG;rw[Nat.one_mul];show X 3000*_≤_
  rw[Nat.mul_comm];exact Nat.mul_le_mul_right _ (Z_mono' (by omega))
 omega
theorem SS.dp_le (S:SS xh (GG K) f nd dp tr e)(hd : -2000≤dp)(hy:SV (dvf f nd) (dp-nd) e<SV 1 0 e):dp≤0:=by
 rcases int_lt_or 0 dp with c|c
 ·exfalso
  have h1:=S.lo (by omega);have h2:SV 1 0 e≤SV 1 (dp-1) e:=by
   unfold SV;rw[Nat.one_mul,Nat.one_mul];exact Nat.mul_le_mul_right _ (X_mono (by omega))
  omega
 ·exact c
theorem SS.below (S:SS xh (GG K) f nd dp tr e)(hd : -2000≤dp)(hd2:dp≤0):SV (dvf f nd) (dp-nd) e<SV 1 0 e:=by
 have h1:=S.hi (by omega);have h2:SV 1 dp e≤SV 1 0 e:=by
  unfold SV;rw[Nat.one_mul,Nat.one_mul];exact Nat.mul_le_mul_right _ (X_mono (by omega))
 omega
theorem SS.room (S:SS xh (GG K) f nd dp tr e){n:Nat}(hd : -2000≤dp)(hd2:dp≤0)(hn:Z n≤X (-dp).toNat)(he : -1300≤e-n):SV (dvf f nd) (dp-nd) e<SV 1 0 (e-n):=by
 refine Nat.lt_of_lt_of_le (S.hi (by omega)) ?_;unfold SV;rw[Nat.one_mul,Nat.one_mul];have e1:Z (e+3000).toNat=Z n*Z (e-n+3000).toNat:=(by rw[Z_mul];exact congrArg Z (by omega));have e2:X (0+3000:Int).toNat=X (dp+3000).toNat * X (-dp).toNat:=(by rw[X_mul];exact congrArg X (by omega));rw[e1,e2,←Nat.mul_assoc];exact Nat.mul_le_mul_right _ (Nat.mul_le_mul_left _ hn)
theorem half_eq (e:Int)(he : -1300≤e):5*SV 1 (-1) e=SV 1 0 (e-1):=by
 unfold SV;rw[Nat.one_mul,Nat.one_mul];show 5*(X 2999*_)=X 3000*_
 have e1:X 3000=10*X 2999:=(by rw[X_one,X_mul]);have e2:Z (e+3000).toNat=2*Z (e-1+3000).toNat:=(by rw[Z_one,Z_mul];exact congrArg Z (by omega));rw[e1,e2,show (10:Nat)=5*2 from rfl];ac_rfl
theorem SS.half_lt (S:SS xh (GG K) f nd 0 tr e)(he : -1300≤e)(h:f 0≤52):SV (dvf f nd) (0-nd) e<SV 1 0 (e-1):=by
 rw[←half_eq e he];have h1:=S.n1;have h8:=S.n8;have hb:=dvf_hi (f:=f) 1 (nd-1) (by rw[show 1+(nd-1)=nd by omega];exact S.ok);rw[show 1+(nd-1)=nd by omega]at hb;have:dvf f 1+1≤5:=(by rw[dvf,dvf];omega);have h5:dvf f nd<5*10^(nd-1):=Nat.lt_of_lt_of_le hb (Nat.mul_le_mul_right _ this);have e1:(-1:Int)=0-nd+(nd-1:Nat):=(by omega);rw[←SV_mul,e1,←SV_ten (by omega),SV_mul (5*10^(nd-1)),SV_mul (dvf f nd)];exact Nat.mul_lt_mul_of_pos_right h5 (SV_pos _ _)
theorem SS.half_le (S:SS xh (GG K) f nd 0 tr e)(he : -1300≤e)(h:53≤f 0):SV 1 0 (e-1)≤SV (dvf f nd) (0-nd) e:=by
 rw[←half_eq e he];have h1:=S.n1;have h8:=S.n8;have hb:=dvf_lo f 1 (nd-1);rw[show 1+(nd-1)=nd by omega]at hb;have:5≤dvf f 1:=(by rw[dvf,dvf];omega);have h5:5*10^(nd-1)≤dvf f nd:=Nat.le_trans (Nat.mul_le_mul_right _ this) hb;have e1:(-1:Int)=0-nd+(nd-1:Nat):=(by omega);rw[←SV_mul,e1,←SV_ten (by omega),SV_mul (5*10^(nd-1)),SV_mul (dvf f nd)];exact Nat.mul_le_mul_right _ h5
theorem SS.rung_n (S:SS xh (GG K) f nd dp tr e)(B:Bd xh K)(he : -1021≤e)(h1:SV 1 0 (e-1)≤SV (dvf f nd) (dp-nd) e)(h2:SV (dvf f nd) (dp-nd) e<SV 1 0 e):(K:Int)=e+1021:=by
 obtain⟨L,hL⟩:∃L:Nat,(L:Int)=e+1021:=⟨(e+1021).toNat,by omega⟩
 have e1:SV 1 0 (e-1)=9007199254740992*HH L:=by
  unfold SV HH;rw[Nat.one_mul];show X 3000*_=_
  rw[Z_53,←Nat.mul_assoc,Z_mul,Nat.mul_comm];exact congrArg (fun x=>Z x*X 3000) (by omega)
 have e2:SV 1 0 e=18014398509481984*HH L:=by
  unfold SV HH;rw[Nat.one_mul];show X 3000*_=_
  rw[Z_54,←Nat.mul_assoc,Z_mul,Nat.mul_comm];exact congrArg (fun x=>Z x*X 3000) (by omega)
 rw[e1]at h1;rw[e2]at h2;have hle:=S.kp.le;rcases Nat.lt_trichotomy L K with c|c|c
 ·exfalso
  obtain⟨cc,hc⟩:=HH_dvd (show L+1≤K by omega);have e3:HH (L+1)=2*HH L:=(by unfold HH;rw[show L+1+1925=L+1925+1 by omega,Z_succ];ac_rfl);have hK:=HH_pos K;have hc0:1≤cc:=by
   rcases Nat.eq_zero_or_pos cc with z|z
   ·rw[hc,z]at hK;omega
   ·exact z
  have h3:2*HH L≤HH K:=(by rw[hc,e3];exact Nat.le_mul_of_pos_right _ hc0);have h4:=B.r1.resolve_left (by omega);have h5:=S.kp.gr;obtain⟨dd,hd⟩:=GG_HH K;have h6:=h5 (9007199254740992*dd) (by rw[Nat.mul_assoc,Nat.mul_comm dd,←hd];exact h4);rw[Nat.mul_assoc,Nat.mul_comm dd,←hd]at h6;omega
 ·omega
 ·exfalso
  obtain⟨cc,hc⟩:=HH_dvd (show K+1≤L by omega);have e3:HH (K+1)=2*HH K:=(by unfold HH;rw[show K+1+1925=K+1925+1 by omega,Z_succ];ac_rfl);have hL':=HH_pos L;have hc0:1≤cc:=by
   rcases Nat.eq_zero_or_pos cc with z|z
   ·rw[hc,z]at hL';omega
   ·exact z
  have h3:2*HH K≤HH L:=(by rw[hc,e3];exact Nat.le_mul_of_pos_right _ hc0);have h4:=B.r2;omega
theorem SS.rung_0 (S:SS xh (GG K) f nd dp tr e)(B:Bd xh K)(he:e≤-1021)(he2 : -1200≤e)(h2:SV (dvf f nd) (dp-nd) e<SV 1 0 e):K=0∨((K:Int)=e+1021+1∧False):=by
 left;rcases Nat.eq_zero_or_pos K with c|c
 ·exact c
 exfalso;have h4:=B.r1.resolve_left (by omega);obtain⟨dd,hd⟩:=GG_HH K;have h6:=S.kp.gr (9007199254740992*dd) (by rw[Nat.mul_assoc,Nat.mul_comm dd,←hd];exact h4);rw[Nat.mul_assoc,Nat.mul_comm dd,←hd]at h6;have h7:SV 1 0 e≤9007199254740992*HH K:=by
  unfold SV HH;rw[Nat.one_mul];show X 3000*_≤_
  rw[Z_53,←Nat.mul_assoc,Z_mul,Nat.mul_comm];exact Nat.mul_le_mul_right _ (Z_mono' (by omega))
 omega
theorem rnd_over {d:Nat}(hd:0<d){n:Nat}(h:Z 1024*d≤n):Rnd n d INF:=by
 refine⟨Nat.le_refl _,.inr (.inl ?_),.inl rfl⟩;have e:hf (INF-1)=18014398509481983*Z 2045:=by
  obtain⟨q,hq⟩:∃q:Nat,q=2045:=⟨_,rfl⟩
  rw[←hq,hf_at (K:=q) (k:=9007199254740991) (by unfold INF;omega) (by decide) (.inr (by decide)) (by omega)]
 have e2:18014398509481984*Z 2045≤Z 1024*Z 1075:=by
  rw[Z_54,Z_mul,Z_mul];exact Z_mono' (by decide)
 have hz:=Z_pos 2045;have h1:Z 1024*d*Z 1075≤n*Z 1075:=Nat.mul_le_mul_right _ h;have h2:18014398509481984*Z 2045*d≤Z 1024*Z 1075*d:=Nat.mul_le_mul_right _ e2;have h3:hf (INF-1)*d<18014398509481984*Z 2045*d:=by
  rw[e];exact Nat.mul_lt_mul_of_pos_right (Nat.mul_lt_mul_of_pos_right (by decide) hz) hd
 rw[Nat.mul_right_comm]at h1;omega
end
end DN
end Go.Proofs.YtieknenhfeejiaaGreatDoor
