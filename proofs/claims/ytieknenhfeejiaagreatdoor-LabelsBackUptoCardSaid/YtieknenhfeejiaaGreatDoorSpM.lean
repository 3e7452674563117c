/- Durations in plain lists; span.digit, span.run, unit.name, unit.size, unitAt, .. -/
import Derived.Test.YtieknenhfeejiaaGreatDoorPPref
set_option maxHeartbeats 1000000
set_option linter.unusedVariables false
set_option linter.unusedSimpArgs false
namespace Go.Proofs.YtieknenhfeejiaaGreatDoor
open _root_.Go.Proofs.Tryz
open Go.RowKit
namespace SP
def ix (c:Nat):Nat:=if c=121 then 0 else if c=119 then 1 else if c=100 then 2 else if c=104 then 3 else if c=109 then 4 else if c=115 then 5 else 7
def h115:List UInt8→Bool
 |[]=>false
 |c::_=>decide (c.toNat=115)
def un:List UInt8→Nat×Nat
 |[]=>(7,0)
 |c::r=>if c.toNat=109∧h115 r=true then(6,2) else if ix c.toNat=7 then(7,0) else(ix c.toNat,1)
def each:Nat→Nat
 |0=>31536000000
 |1=>604800000
 |2=>86400000
 |3=>3600000
 |4=>60000
 |5=>1000
 |_=>1
def MD:Nat:=315360000000000
def dv (l:List UInt8):Nat:=l.foldl (fun a c=>a*10+(c.toNat-48)) 0
theorem dv_snoc (l:List UInt8)(c:UInt8):dv (l++[c])=dv l*10+(c.toNat-48):=by
 unfold dv;rw[List.foldl_append];rfl
def M (l:List UInt8)(next:Nat):Nat×Nat:=
 if PN.spn PN.dg l=0∨(un (l.drop (PN.spn PN.dg l))).1<next∨7≤(un (l.drop (PN.spn PN.dg l))).1 then(0,0)
 else(PN.spn PN.dg l+(un (l.drop (PN.spn PN.dg l))).2+(M (l.drop (PN.spn PN.dg l+(un (l.drop (PN.spn PN.dg l))).2)) ((un (l.drop (PN.spn PN.dg l))).1+1)).1,
  dv (l.take (PN.spn PN.dg l))*each (un (l.drop (PN.spn PN.dg l))).1+(M (l.drop (PN.spn PN.dg l+(un (l.drop (PN.spn PN.dg l))).2)) ((un (l.drop (PN.spn PN.dg l))).1+1)).2)
termination_by 8-next
decreasing_by all_goals omega
theorem M_stop {l:List UInt8}{next:Nat}(h:PN.spn PN.dg l=0∨(un (l.drop (PN.spn PN.dg l))).1<next∨7≤(un (l.drop (PN.spn PN.dg l))).1):M l next=(0,0):=by
 rw[M,if_pos h]
theorem M_go {l:List UInt8}{next n u k:Nat}(hn:PN.spn PN.dg l=n)(hu:(un (l.drop n)).1=u)(hk:(un (l.drop n)).2=k)(h0:n≠0)(h1:next≤u)(h2:u<7) :
  M l next=(n+k+(M (l.drop (n+k)) (u+1)).1,dv (l.take n)*each u+(M (l.drop (n+k)) (u+1)).2):=by
 subst hn hu hk;rw[M,if_neg (by omega)]
theorem ix_lt (c:Nat):ix c=7∨ix c<6:=by unfold ix;split;omega;split;omega;split;omega;split;omega;split;omega;split;omega;omega
theorem un_cons (c:UInt8)(r:List UInt8):un (c::r)=if c.toNat=109∧h115 r=true then(6,2) else if ix c.toNat=7 then(7,0) else(ix c.toNat,1):=rfl
theorem un_cases (l:List UInt8):(un l=(7,0))∨(un l=(6,2)∧2≤l.length)∨∃u,u<6∧un l=(u,1)∧1≤l.length:=by
 cases l with
 |nil=>exact .inl rfl
 |cons c r=>
  rw[un_cons];by_cases h:c.toNat=109∧h115 r=true
  ·rw[if_pos h]
   cases r with
   |nil=>exact absurd h.2 (by decide)
   |cons d r=>exact .inr (.inl ⟨rfl,by simp⟩)
  ·rw[if_neg h]
   by_cases h7:ix c.toNat=7
   ·rw[if_pos h7];exact .inl rfl
   ·rw[if_neg h7];exact .inr (.inr ⟨_,(ix_lt _).resolve_left h7,rfl,by simp⟩)
theorem M_le (l:List UInt8)(next:Nat):(M l next).1≤l.length:=by
 induction h:8-next using Nat.strongRecOn generalizing l next with
 |_ m ih=>
  by_cases c:PN.spn PN.dg l=0∨(un (l.drop (PN.spn PN.dg l))).1<next∨7≤(un (l.drop (PN.spn PN.dg l))).1
  ·rw[M_stop c];exact Nat.zero_le _
  ·rw[M_go rfl rfl rfl (by omega) (by omega) (by omega)]
   have h1:=ih (8-((un (l.drop (PN.spn PN.dg l))).1+1)) (by omega) (l.drop (PN.spn PN.dg l+(un (l.drop (PN.spn PN.dg l))).2)) ((un (l.drop (PN.spn PN.dg l))).1+1) rfl;rw[List.length_drop]at h1;have h2:=PN.spn_le PN.dg l;have h3:=un_cases (l.drop (PN.spn PN.dg l));rw[List.length_drop]at h3;rcases h3 with e|⟨e,h⟩|⟨u,_,e,h⟩
   ·rw[e]at c;simp at c
   ·rw[e]at h1 ⊢;simp only at h1 ⊢;omega
   ·rw[e]at h1 ⊢;simp only at h1 ⊢;omega
def err (l:List UInt8):Int:=if 64<l.length then 1 else if l=[]∨(M l 0).1≠l.length then 30 else if MD<(M l 0).2 then 31 else 0
def val (l:List UInt8):Int:=if err l=0 then((M l 0).2:Int) else 0
theorem each_pos (u:Nat):0<each u∧each u≤31536000000:=by
 unfold each;split<;>omega
end SP
theorem spdigit_any (c:Nat)(w:World)(h:c<256) :
  Calls prog 173 #[.int .u8 c] w fun e w'=>e=.returned (.bool (PN.dg c))∧w=w':=by
 by_cases h1:48≤c∧c≤57
 ·have G:Hd (PN.dg c=true):=hd <|by unfold PN.dg;simp[h1]
  obtain⟨a1,a2⟩:=h1;go_enter func173,ntmps173;go_wp2;go_ret;exact⟨ret_bool (by first|exact G.o.symm|(rw[G.o];simp;omega)),rfl⟩
 ·have G:Hd (PN.dg c=false):=hd <|by unfold PN.dg;simp[h1]
  go_enter func173,ntmps173;go_wp2
  all_goals first|(exfalso;omega)|(go_ret;exact⟨ret_bool (by first|exact G.o.symm|(rw[G.o];simp;omega)),rfl⟩)
theorem s3digit_any (c:Nat)(w:World)(h:c<256) :
  Calls prog 152 #[.int .u8 c] w fun e w'=>e=.returned (.bool (PN.dg c))∧w=w':=by
 by_cases h1:48≤c∧c≤57
 ·have G:Hd (PN.dg c=true):=hd <|by unfold PN.dg;simp[h1]
  obtain⟨a1,a2⟩:=h1;go_enter func152,ntmps152;go_wp2;go_ret;exact⟨ret_bool (by first|exact G.o.symm|(rw[G.o];simp;omega)),rfl⟩
 ·have G:Hd (PN.dg c=false):=hd <|by unfold PN.dg;simp[h1]
  go_enter func152,ntmps152;go_wp2
  all_goals first|(exfalso;omega)|(go_ret;exact⟨ret_bool (by first|exact G.o.symm|(rw[G.o];simp;omega)),rfl⟩)
theorem sprun_any (s:ByteArray)(i:Nat)(w:World)(hs:s.size≤1125899906842624)(hi:i≤s.size) :
  Calls prog 161 #[.string s,.int .i64 i] w fun e w'=>e=.returned (.int .i64 ((i+PN.spn PN.dg (s.data.toList.drop i):Nat):Int))∧w=w':=by
 go_enter func161,ntmps161;go_wp2
 go_loop [1] (fun x=>∃k:Nat,k≤s.size∧x=.int .i64 k∧Hd (k+PN.spn PN.dg (s.data.toList.drop k)=i+PN.spn PN.dg (s.data.toList.drop i))) (fun x=>s.size-(intOf x).toNat)
 case atStart=>exact⟨i,hi,rfl,hd rfl⟩
 case round=>
  obtain⟨k,hk,rfl,hG⟩:=hrel;by_cases hlt:k<s.size
  ·have HDR:=hd (data_drop' s k hlt)
   have hc:(s[k]'hlt).toNat<256:=(s[k]'hlt).toNat_lt;have YES:Hd (PN.dg (s[k]'hlt).toNat=true→(k+1)+PN.spn PN.dg (s.data.toList.drop (k+1))=i+PN.spn PN.dg (s.data.toList.drop i)):=hd fun h=>by
    rw[←hG.o,HDR.o,PN.spn_yes h];omega
   have NO:Hd (PN.dg (s[k]'hlt).toNat=false→k=i+PN.spn PN.dg (s.data.toList.drop i)):=hd fun h=>by
    rw[←hG.o,HDR.o,PN.spn_no h];rfl
   clear hG HDR;cases hl:PN.dg (s[k]'hlt).toNat with
   |true=>
    have V:=hd hl;have G:=hd (YES.o hl);clear YES NO hl;go_wp2_with (go_at_call 173;refine(spdigit_any _ _ hc).mono ?_;rintro e w' ⟨rfl,rfl⟩;rw[V.o])
    go_round
    case rel=>exact⟨k+1,by omega,by go_num,G⟩
    case measure=>simp[intOf];omega
   |false=>
    have V:=hd hl;have G:=hd (NO.o hl);clear YES NO hl;go_wp2_with (go_at_call 173;refine(spdigit_any _ _ hc).mono ?_;rintro e w' ⟨rfl,rfl⟩;rw[V.o])
    go_ret;exact⟨ret_int (by have:=G.o;omega),rfl⟩
  ·have G:Hd (k=i+PN.spn PN.dg (s.data.toList.drop i)):=hd <|by
    rw[←hG.o,List.drop_eq_nil_of_le (by rw[←Lib.size_eq];omega),PN.spn_nil];rfl
   go_wp2;go_ret;exact⟨ret_int (by have:=G.o;omega),rfl⟩
theorem s3run_any (s:ByteArray)(i:Nat)(w:World)(hs:s.size≤1125899906842624)(hi:i≤s.size) :
  Calls prog 122 #[.string s,.int .i64 i] w fun e w'=>e=.returned (.int .i64 ((i+PN.spn PN.dg (s.data.toList.drop i):Nat):Int))∧w=w':=by
 go_enter func122,ntmps122;go_wp2
 go_loop [1] (fun x=>∃k:Nat,k≤s.size∧x=.int .i64 k∧Hd (k+PN.spn PN.dg (s.data.toList.drop k)=i+PN.spn PN.dg (s.data.toList.drop i))) (fun x=>s.size-(intOf x).toNat)
 case atStart=>exact⟨i,hi,rfl,hd rfl⟩
 case round=>
  obtain⟨k,hk,rfl,hG⟩:=hrel;by_cases hlt:k<s.size
  ·have HDR:=hd (data_drop' s k hlt)
   have hc:(s[k]'hlt).toNat<256:=(s[k]'hlt).toNat_lt;have YES:Hd (PN.dg (s[k]'hlt).toNat=true→(k+1)+PN.spn PN.dg (s.data.toList.drop (k+1))=i+PN.spn PN.dg (s.data.toList.drop i)):=hd fun h=>by
    rw[←hG.o,HDR.o,PN.spn_yes h];omega
   have NO:Hd (PN.dg (s[k]'hlt).toNat=false→k=i+PN.spn PN.dg (s.data.toList.drop i)):=hd fun h=>by
    rw[←hG.o,HDR.o,PN.spn_no h];rfl
   clear hG HDR;cases hl:PN.dg (s[k]'hlt).toNat with
   |true=>
    have V:=hd hl;have G:=hd (YES.o hl);clear YES NO hl;go_wp2_with (go_at_call 152;refine(s3digit_any _ _ hc).mono ?_;rintro e w' ⟨rfl,rfl⟩;rw[V.o])
    go_round
    case rel=>exact⟨k+1,by omega,by go_num,G⟩
    case measure=>simp[intOf];omega
   |false=>
    have V:=hd hl;have G:=hd (NO.o hl);clear YES NO hl;go_wp2_with (go_at_call 152;refine(s3digit_any _ _ hc).mono ?_;rintro e w' ⟨rfl,rfl⟩;rw[V.o])
    go_ret;exact⟨ret_int (by have:=G.o;omega),rfl⟩
  ·have G:Hd (k=i+PN.spn PN.dg (s.data.toList.drop i)):=hd <|by
    rw[←hG.o,List.drop_eq_nil_of_le (by rw[←Lib.size_eq];omega),PN.spn_nil];rfl
   go_wp2;go_ret;exact⟨ret_int (by have:=G.o;omega),rfl⟩
theorem spsize_any (u:Nat)(hu:u<7)(w:World) :
  Calls prog 164 #[.int .i64 u] w fun e w'=>e=.returned (.int .i64 (SP.each u:Int))∧w=w':=by
 match u,hu with
 |0,_=>go_enter func164,ntmps164;go_wp2;go_ret;exact⟨rfl,rfl⟩
 |1,_=>go_enter func164,ntmps164;go_wp2;go_ret;exact⟨rfl,rfl⟩
 |2,_=>go_enter func164,ntmps164;go_wp2;go_ret;exact⟨rfl,rfl⟩
 |3,_=>go_enter func164,ntmps164;go_wp2;go_ret;exact⟨rfl,rfl⟩
 |4,_=>go_enter func164,ntmps164;go_wp2;go_ret;exact⟨rfl,rfl⟩
 |5,_=>go_enter func164,ntmps164;go_wp2;go_ret;exact⟨rfl,rfl⟩
 |6,_=>go_enter func164,ntmps164;go_wp2;go_ret;exact⟨rfl,rfl⟩
namespace SP
def MD1:Nat:=315360000000001
theorem ext_list (s:ByteArray)(p n:Nat):(s.extract p (p+n)).data.toList=(s.data.toList.drop p).take n:=by
 rw[ByteArray.data_extract,Array.toList_extract];simp[List.extract_eq_take_drop]
theorem spn_all (p:Nat→Bool):∀l:List UInt8,∀c∈l.take (PN.spn p l),p c.toNat=true
 |[],c,h=>by simp at h
 |a::l,c,h=>by
  cases ha:p a.toNat with
  |false=>rw[PN.spn_no ha]at h;simp at h
  |true=>
   rw[PN.spn_yes ha,List.take_succ_cons,List.mem_cons]at h;rcases h with rfl|h
   ·exact ha
   ·exact spn_all p l c h
theorem dg_bd {c:Nat}(h:PN.dg c=true):48≤c∧c≤57:=by unfold PN.dg at h;simpa using h
theorem dv_step (l:List UInt8)(k:Nat)(h:k<l.length):dv (l.take (k+1))=dv (l.take k)*10+((l[k]'h).toNat-48):=by
 rw[List.take_succ_eq_append_getElem h,dv_snoc]
structure St (l:List UInt8)(e next sum:Nat):Prop where
 le:e≤l.length
 nx:next≤7
 pl:e+(M (l.drop e) next).1=(M l 0).1
 sm:min (sum+(M (l.drop e) next).2) MD1=min (M l 0).2 MD1
 bd:sum≤MD1
theorem St.start (l:List UInt8):St l 0 0 0:=⟨Nat.zero_le _,by omega,by simp,by simp,Nat.zero_le _⟩
theorem St.stop {l:List UInt8}{e next sum n u:Nat}(S:St l e next sum)(hn:PN.spn PN.dg (l.drop e)=n)(hu:(un (l.drop (e+n))).1=u)(h:n=0∨u<next∨u=7) :
  e=(M l 0).1∧sum=min (M l 0).2 MD1:=by
 have hm:M (l.drop e) next=(0,0):=M_stop (by rw[hn,List.drop_drop,hu];omega);have h1:=S.pl;have h2:=S.sm;have h3:=S.bd;rw[hm]at h1 h2;simp only at h1 h2;omega
theorem mul_le_of {n each m:Nat}(h0:0<each)(h:n≤m/each):n*each≤m:=(Nat.le_div_iff_mul_le h0).1 h
theorem lt_mul_of {n each m:Nat}(h0:0<each)(h:m/each<n):m<n*each:=(Nat.div_lt_iff_lt_mul h0).1 h
theorem St.go {l:List UInt8}{e next sum n u k:Nat}(S:St l e next sum)(hn:PN.spn PN.dg (l.drop e)=n)(hu:un (l.drop (e+n))=(u,k))(h:n≠0)(h1:next≤u)(h2:u<7)(s':Nat)
  (hs:s'=min (sum+dv ((l.drop e).take n)*each u) MD1):St l (e+n+k) (u+1) s':=by
 have hm:=M_go (l:=l.drop e) (next:=next) hn (by rw[List.drop_drop,hu]) (by rw[List.drop_drop,hu]) h h1 h2;rw[List.drop_drop,←Nat.add_assoc]at hm;have g1:=S.pl;have g2:=S.sm;have g3:=S.bd;have g4:=S.le;rw[hm]at g1 g2;simp only at g1 g2;have hk:=un_cases (l.drop (e+n));rw[hu]at hk;have hnl:=PN.spn_le PN.dg (l.drop e);rw[hn,List.length_drop]at hnl;rw[List.length_drop]at hk;refine⟨?_,by omega,by omega,?_,by subst hs;exact Nat.min_le_right _ _⟩
 ·rcases hk with e' |⟨e',h'⟩|⟨u',_,e',h'⟩<;>simp only[Prod.mk.injEq]at e'<;>omega
 ·subst hs
  generalize dv ((l.drop e).take n)*each u=z at *;generalize (M (l.drop (e+n+k)) (u+1)).2=y at *;generalize (M l 0).2=x at *;generalize MD1=m at *;omega
theorem sum_few {d u sum:Nat}(h:min d MD1≤MD/each u):min (sum+min d MD1*each u) MD1=min (sum+d*each u) MD1:=by
 have h1:=Nat.le_trans h (Nat.div_le_self _ _);have h2:MD<MD1:=(by decide);have h3:min d MD1=d:=(by omega);rw[h3]
theorem sum_many {d u sum:Nat}(h:MD/each u<min d MD1):MD1=min (sum+d*each u) MD1:=by
 have h1:=lt_mul_of (each_pos u).1 (Nat.lt_of_lt_of_le h (Nat.min_le_left _ _));have h2:MD+1=MD1:=(by decide);omega
def part (d each:Nat):Nat:=if MD<d*each then MD1 else d*each
theorem part_le (d each:Nat):part d each≤MD1:=by
 have h2:MD+1=MD1:=(by decide);unfold part;split<;>omega
structure Pr (l:List UInt8)(e next sum:Nat):Prop where
 le:e≤l.length
 nx:next≤7
 pl:e+(M (l.drop e) next).1=(M l 0).1
 bd:sum≤next*MD1
 far:MD<sum+(M (l.drop e) next).2↔MD<(M l 0).2
 eq:(M l 0).2≤MD→sum+(M (l.drop e) next).2=(M l 0).2
theorem Pr.start (l:List UInt8):Pr l 0 0 0:=⟨Nat.zero_le _,by omega,by simp,by omega,by simp,by simp⟩
theorem Pr.on {l:List UInt8}{e next sum:Nat}(S:Pr l e next sum)(hf:(M l 0).1=l.length)(he:e<l.length) :
  PN.spn PN.dg (l.drop e)≠0∧next≤(un (l.drop (e+PN.spn PN.dg (l.drop e)))).1∧(un (l.drop (e+PN.spn PN.dg (l.drop e)))).1<7:=by
 by_cases c:PN.spn PN.dg (l.drop e)=0∨(un ((l.drop e).drop (PN.spn PN.dg (l.drop e)))).1<next∨7≤(un ((l.drop e).drop (PN.spn PN.dg (l.drop e)))).1
 ·have h1:=S.pl
  rw[M_stop c]at h1;simp only at h1;omega
 ·rw[List.drop_drop]at c;omega
theorem Pr.go {l:List UInt8}{e next sum n u k:Nat}(S:Pr l e next sum)(hn:PN.spn PN.dg (l.drop e)=n)(hu:un (l.drop (e+n))=(u,k))(h:n≠0)(h1:next≤u)(h2:u<7) :
  Pr l (e+n+k) (u+1) (sum+part (dv ((l.drop e).take n)) (each u))∧k≠0:=by
 have hm:=M_go (l:=l.drop e) (next:=next) hn (by rw[List.drop_drop,hu]) (by rw[List.drop_drop,hu]) h h1 h2;rw[List.drop_drop,←Nat.add_assoc]at hm;have g1:=S.pl;have g2:=S.far;have g3:=S.bd;have g4:=S.le;have g5:=S.eq;rw[hm]at g1 g2 g5;simp only at g1 g2 g5;have hk:=un_cases (l.drop (e+n));rw[hu]at hk;have hnl:=PN.spn_le PN.dg (l.drop e);rw[hn,List.length_drop]at hnl;rw[List.length_drop]at hk;have hmd:MD+1=MD1:=(by decide);have hp:=part_le (dv ((l.drop e).take n)) (each u);have hmul:next*MD1+MD1≤(u+1)*MD1:=by
  have:=Nat.mul_le_mul_right MD1 (show next+1≤u+1 by omega);rwa[Nat.succ_mul]at this
 refine⟨⟨?_,by omega,by omega,by omega,?_,?_⟩,?_⟩
 ·rcases hk with e' |⟨e',h'⟩|⟨u',_,e',h'⟩<;>simp only[Prod.mk.injEq]at e'<;>omega
 ·unfold part
  split<;>omega
 ·unfold part
  intro hle;split<;>omega
 ·rcases hk with e' |⟨e',h'⟩|⟨u',_,e',h'⟩<;>simp only[Prod.mk.injEq]at e'<;>omega
theorem many_over {d n each:Nat}(h0:0<each)(hd:n≤d)(h:MD/each<n):part d each=MD1:=by
 have h1:=lt_mul_of h0 h;have h2:n*each≤d*each:=Nat.mul_le_mul_right each hd;unfold part;rw[if_pos (by omega)]
theorem many_in {d each:Nat}(h0:0<each)(h:d≤MD/each):part d each=d*each:=by
 have h1:=mul_le_of h0 h;unfold part;rw[if_neg (by omega)]
theorem dv_mono (l:List UInt8):∀(a b:Nat),a≤b→dv (l.take a)≤dv (l.take b):=by
 intro a b h;induction b with
 |zero=>rw[Nat.le_zero.1 h];exact Nat.le_refl _
 |succ b ih=>
  by_cases hb:b<l.length
  ·by_cases e:a=b+1
   ·rw[e];exact Nat.le_refl _
   ·have:=ih (by omega)
    rw[dv_step l b hb];omega
  ·by_cases e:a=b+1
   ·rw[e];exact Nat.le_refl _
   ·have:=ih (by omega)
    rw[List.take_of_length_le (by omega:l.length≤b+1)];rwa[List.take_of_length_le (by omega:l.length≤b)]at this
theorem wrap_i64 (x:Int)(h0:0≤x)(h1:x<9223372036854775808):IntKind.i64.wrap x=x:=by
 rw[IntKind.wrap_i64];omega
theorem ret_two {a b c d:Int}(h1:a=c)(h2:b=d):Ending.returned (.tuple #[.int .i64 a,.int .i64 b])=.returned (.tuple #[.int .i64 c,.int .i64 d]):=by rw[h1,h2]
end SP
end Go.Proofs.YtieknenhfeejiaaGreatDoor
