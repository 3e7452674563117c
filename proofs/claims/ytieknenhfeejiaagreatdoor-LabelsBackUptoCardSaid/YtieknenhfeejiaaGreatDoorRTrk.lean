/- What lex.Scan finds: plain lists. No function of the program in sight. The te .. -/
import Derived.Test.YtieknenhfeejiaaGreatDoorLName
import Derived.Test.YtieknenhfeejiaaGreatDoorUMb
import Derived.Test.YtieknenhfeejiaaGreatDoorSpM
import Derived.Test.YtieknenhfeejiaaGreatDoorRfRead
import Derived.Test.YtieknenhfeejiaaGreatDoorUEnc
set_option maxHeartbeats 1000000
set_option linter.unusedVariables false
set_option linter.unusedSimpArgs false
namespace Go.Proofs.YtieknenhfeejiaaGreatDoor
open _root_.Go.Proofs.Tryz
namespace SC
structure Tk where
 kind:Nat
 text:ByteArray
 pos:Nat
def blank (c:Nat):Bool:=decide (c=9∨c=10∨c=13∨c=32)
def bl:Bool→List UInt8→Nat
 |_,[]=>0
 |false,c::r=>if blank c.toNat then bl false r+1 else if c.toNat=35 then bl true r+1 else 0
 |true,c::r=>if c.toNat=10 then bl false r+1 else bl true r+1
theorem bl_nil (b:Bool):bl b []=0:=by cases b<;>rfl
theorem bl_blank {c:UInt8}{r:List UInt8}(h:blank c.toNat=true):bl false (c::r)=bl false r+1:=by
 show (if blank c.toNat then bl false r+1 else _)=_
 rw[if_pos h]
theorem bl_hash {c:UInt8}{r:List UInt8}(h:c.toNat=35):bl false (c::r)=bl true r+1:=by
 show (if blank c.toNat then bl false r+1 else if c.toNat=35 then bl true r+1 else 0)=_
 rw[if_neg (by rw[h];decide),if_pos h]
theorem bl_none {c:UInt8}{r:List UInt8}(h:blank c.toNat=false)(h2:c.toNat≠35):bl false (c::r)=0:=by
 show (if blank c.toNat then bl false r+1 else if c.toNat=35 then bl true r+1 else 0)=_
 rw[if_neg (by rw[h];decide),if_neg h2]
theorem bl_nl {c:UInt8}{r:List UInt8}(h:c.toNat=10):bl true (c::r)=bl false r+1:=by
 show (if c.toNat=10 then bl false r+1 else bl true r+1)=_
 rw[if_pos h]
theorem bl_in {c:UInt8}{r:List UInt8}(h:c.toNat≠10):bl true (c::r)=bl true r+1:=by
 show (if c.toNat=10 then bl false r+1 else bl true r+1)=_
 rw[if_neg h]
inductive R where
 |ok (kind n:Nat) (br sq:Bool)
 |bad (e:Int)
def low (c:UInt8):Nat:=if 65≤c.toNat∧c.toNat≤90 then c.toNat+32 else c.toNat
def isNum (l:List UInt8):Bool:=decide (l.map low=[105,110,102]∨l.map low=[110,97,110])
def nameK (br:Bool)(l:List UInt8):Nat:=if l.any (fun c=>c.toNat==58) then 2 else if !br && isNum l then 3 else 1
def numBad (s:ByteArray):Prop:=∃b e,RdOk s (rdTup b e)∧e≠0
theorem numBad_iff {s:ByteArray}{b:Nat}{e:Int}(h:RdOk s (rdTup b e)):numBad s↔e≠0:=by
 constructor
 ·rintro⟨b',e',h',he⟩
  have:=RdOk.ext h h';unfold rdTup at this;simp only[Go.Value.tuple.injEq,Array.mk.injEq,List.cons.injEq,Go.Value.int.injEq,Go.Value.float.injEq,and_true,true_and]at this;rw[this.2];exact he
 ·exact fun he=>⟨b,e,h,he⟩
theorem numBad_nil {s:ByteArray}(h:s.size=0):numBad s:=by
 refine⟨0,20,.inr (.inr (.inr (.inl ⟨by omega,?_,?_,.inl h,rfl⟩))),by decide⟩
 ·intro hw;have:=hw.1;rw[h]at this;exact absurd this (by decide)
 ·intro hw;have:=hw.1;rw[h]at this;exact absurd this (by decide)
def tail (c:Nat):Bool:=L.ltr c ||L.dgt c ||c==46
open Classical in
noncomputable def number (s:ByteArray)(p:Nat)(br sq:Bool):R:=
 if PN.pfx (s.data.toList.drop p)<(SP.M (s.data.toList.drop p) 0).1 then
  (if tail (U.at' s (p+(SP.M (s.data.toList.drop p) 0).1))=true∨SP.err ((s.data.toList.drop p).take (SP.M (s.data.toList.drop p) 0).1)≠0 then .bad 112 else .ok 4 (SP.M (s.data.toList.drop p) 0).1 br sq)
 else
  (if tail (U.at' s (p+PN.pfx (s.data.toList.drop p)))=true∨numBad (s.extract p (p+PN.pfx (s.data.toList.drop p))) then .bad 112 else .ok 3 (PN.pfx (s.data.toList.drop p)) br sq)
def nameR (l:List UInt8)(br sq:Bool):R:=.ok (nameK br (l.take (L.nlen (!br && !sq) l))) (L.nlen (!br && !sq) l) br sq
def litK (s:ByteArray)(p:Nat)(br sq:Bool):R:=
 if (U.literal s p).2≠0∨(U.unquote (s.extract p (U.literal s p).1.toNat)).2≠0 then .bad 111 else .ok 5 ((U.literal s p).1.toNat-p) br sq
def two (c d:Nat):Bool:=decide (((c=61∨c=33)∧(d=61∨d=126))∨((c=60∨c=62)∧d=61))
def single (c:Nat):Bool:=decide (c=40∨c=41∨c=44∨c=58∨c=61∨c=60∨c=62∨c=43∨c=45∨c=42∨c=47∨c=37∨c=94∨c=64)
def opR (c d:Nat)(br sq:Bool):R:=
 if two c d then .ok 6 2 br sq else if c=123 then .ok 6 1 true sq else if c=125 then .ok 6 1 false sq else if c=91 then .ok 6 1 br true else if c=93 then .ok 6 1 br false else if single c then .ok 6 1 br sq else .bad 110
def nameB (c:Nat)(br sq:Bool):Bool:=L.ltr c ||(c==58 && (!br && !sq))
def numB (c d:Nat):Bool:=L.dgt c ||(c==46 && L.dgt d)
def quoB (c:Nat):Bool:=c==34 ||c==39 ||c==96
noncomputable def tok (s:ByteArray)(p:Nat)(br sq:Bool):R:=
 if nameB (U.at' s p) br sq then nameR (s.data.toList.drop p) br sq
 else if numB (U.at' s p) (U.at' s (p+1)) then number s p br sq
 else if quoB (U.at' s p) then litK s p br sq
 else opR (U.at' s p) (U.at' s (p+1)) br sq
inductive Out where
 |ok (l:List Tk)
 |bad (p:Nat) (e:Int)
def Out.pre (A:List Tk):Out→Out
 | .ok l=>.ok (A++l)
 | .bad p e=>.bad p e
theorem Out.pre_pre (A B:List Tk)(o:Out):(o.pre B).pre A=o.pre (A++B):=by cases o<;>simp[Out.pre]
theorem Out.pre_nil (o:Out):o.pre []=o:=by cases o<;>rfl
noncomputable def go (s:ByteArray)(p:Nat)(br sq:Bool):Out:=
 if h:p+bl false (s.data.toList.drop p)<s.size then
  match tok s (p+bl false (s.data.toList.drop p)) br sq with
  | .bad e=>.bad (p+bl false (s.data.toList.drop p)) e
  | .ok k n b q=>if hn:0<n then(go s (p+bl false (s.data.toList.drop p)+n) b q).pre [⟨k,s.extract (p+bl false (s.data.toList.drop p)) (p+bl false (s.data.toList.drop p)+n),p+bl false (s.data.toList.drop p)⟩] else .bad 0 0
 else .ok []
termination_by s.size-p
decreasing_by omega
theorem go_eq {s:ByteArray}{p p':Nat}{br sq:Bool}(e:p+bl false (s.data.toList.drop p)=p'+bl false (s.data.toList.drop p')):go s p br sq=go s p' br sq:=by
 rw[go,go.eq_def s p',e]
theorem go_tok {s:ByteArray}{p k n:Nat}{br sq b q:Bool}(h:p<s.size)(h0:bl false (s.data.toList.drop p)=0)(ht:tok s p br sq=.ok k n b q)(hn:0<n):go s p br sq=(go s (p+n) b q).pre [⟨k,s.extract p (p+n),p⟩]:=by
 rw[go];simp only[h0,Nat.add_zero,ht,dif_pos h,dif_pos hn]
theorem go_fault {s:ByteArray}{p:Nat}{br sq:Bool}{e:Int}(h:p<s.size)(h0:bl false (s.data.toList.drop p)=0)(ht:tok s p br sq=.bad e):go s p br sq=.bad p e:=by
 rw[go];simp only[h0,Nat.add_zero,ht,dif_pos h]
theorem go_done {s:ByteArray}{p:Nat}{br sq:Bool}(h:s.size≤p):go s p br sq=.ok []:=by
 rw[go,dif_neg (by omega)]
theorem at_drop (s:ByteArray)(p:Nat)(h:p<s.size):∃c r,s.data.toList.drop p=c::r∧c.toNat=U.at' s p∧r=s.data.toList.drop (p+1):=
 ⟨s[p],s.data.toList.drop (p+1),data_drop s p h,(U.at_eq s p h).symm,rfl⟩
theorem at_out (s:ByteArray)(p:Nat)(h:¬ p<s.size):U.at' s p=0:=by
 unfold U.at';have h2:¬ p<s.data.size:=h;show (s.data[p]!).toNat=0
 rw[getElem!_neg s.data p h2];rfl
theorem pfx_le (l:List UInt8):PN.pfx l≤l.length:=by
 unfold PN.pfx;split
 ·rename_i h
  have:=PN.spn_le PN.hx (l.drop 2);rw[List.length_drop]at this
  match l,h with
  |a::b::c::t,_=>simp only[List.length_cons]at this ⊢;omega
 ·split
  ·omega
  ·have:=PN.exl_le (l.drop (PN.mant l))
   rw[List.length_drop]at this;have:=PF.mant_le l;omega
theorem tok_n {s:ByteArray}{p k n:Nat}{br sq b q:Bool}(hp:p<s.size)(h:tok s p br sq=.ok k n b q):0<n∧p+n≤s.size:=by
 obtain⟨c,r,hd,hc,hr⟩:=at_drop s p hp;have hlen:(s.data.toList.drop p).length=s.size-p:=(by rw[List.length_drop,←Lib.size_eq]);unfold tok at h;split at h
 ·rename_i hn
  unfold nameR at h;simp only[R.ok.injEq]at h;obtain⟨_,rfl,_,_⟩:=h;have h1:=L.nlen_le (!br && !sq) (s.data.toList.drop p);refine⟨?_,by omega⟩;rw[hd];have:L.nok (!br && !sq) c=true:=by
   unfold nameB at hn;unfold L.nok;rw[hc];cases h1:L.ltr (U.at' s p)<;>simp[h1]at hn ⊢
   exact .inr ⟨⟨hn.2.1,hn.2.2⟩,hn.1⟩
  rw[L.nlen_yes this];omega
 ·split at h
  ·unfold number at h
   split at h
   ·rename_i hlt
    split at h
    ·exact absurd h (by simp)
    ·simp only[R.ok.injEq]at h
     obtain⟨_,rfl,_,_⟩:=h;have:=SP.M_le (s.data.toList.drop p) 0;omega
   ·split at h
    ·exact absurd h (by simp)
    ·rename_i hb
     simp only[R.ok.injEq]at h;obtain⟨_,rfl,_,_⟩:=h;have h2:=pfx_le (s.data.toList.drop p);refine⟨Nat.pos_of_ne_zero fun h0=>hb (.inr ?_),by omega⟩;rw[h0];exact numBad_nil (by simp)
  ·split at h
   ·rename_i _ _ hq
    unfold litK at h;split at h
    ·exact absurd h (by simp)
    ·rename_i hb
     simp only[R.ok.injEq]at h;obtain⟨_,rfl,_,_⟩:=h;have h2:U.at' s p=34∨U.at' s p=39∨U.at' s p=96:=by
      unfold quoB at hq;simpa[or_assoc] using hq
     rw[U.literal_in s p hp h2]at hb ⊢;cases hl:U.lit s (U.at' s p) (p+1) with
     |none=>rw[hl]at hb;exact absurd (Or.inl (by decide)) hb
     |some e=>
      have:=U.lit_gt s (U.at' s p) _ (p+1) e rfl hl;show 0<((e:Nat):Int).toNat-p∧p+(((e:Nat):Int).toNat-p)≤s.size
      rw[Int.toNat_natCast];omega
   ·unfold opR at h
    split at h
    ·rename_i h2
     simp only[R.ok.injEq]at h;obtain⟨_,rfl,_,_⟩:=h;refine⟨by decide,?_⟩;rcases Nat.lt_or_ge (p+1) s.size with h3|h3
     ·omega
     ·rw[at_out s (p+1) (by omega)]at h2
      unfold two at h2;simp at h2
    ·repeat' split at h
     all_goals first
      |(simp only[R.ok.injEq]at h;obtain⟨_,rfl,_,_⟩:=h;exact⟨by decide,by omega⟩)
      |exact absurd h (by simp)
end SC
namespace SC
def qv (v:ByteArray):List UInt8:=34::v.data.toList.flatMap U.wrQ++[34]
def pc (x:Lb):List UInt8:=x.1.data.toList++([61]++qv x.2)
def bodyT:List Lb→List UInt8
 |[]=>[]
 |[x]=>pc x
 |x::y::r=>pc x++([44]++([32]++bodyT (y::r)))
theorem ba_eq (s:ByteArray):(⟨s.data.toList.toArray⟩:ByteArray)=s:=by cases s;simp
def isMet (s:ByteArray):Bool:=match s.data.toList with
 |[]=>false
 |c::t=>!L.dgt c.toNat && (c::t).all (L.nok true)
def cT (nm:Option ByteArray)(l:List Lb):List UInt8:=
 match nm with
 |none=>[123]++(bodyT l++[125])
 |some m=>if l=[] then m.data.toList else m.data.toList++([123]++(bodyT l++[125]))
def nmB:ByteArray:=⟨#[95,95,110,97,109,101,95,95]⟩
end SC
namespace SC
theorem mk_list (l:List UInt8):(⟨l.toArray⟩:ByteArray).data.toList=l:=rfl
theorem mk_drop (A X:List UInt8):(⟨(A++X).toArray⟩:ByteArray).data.toList.drop A.length=X:=by
 rw[mk_list];exact List.drop_left
theorem mk_size (l:List UInt8):(⟨l.toArray⟩:ByteArray).size=l.length:=by show l.toArray.size=_;simp
theorem mk_ext (A w r:List UInt8):(⟨(A++(w++r)).toArray⟩:ByteArray).extract A.length (A.length+w.length)=⟨w.toArray⟩:=by
 apply ByteArray.ext;apply Array.ext';rw[ByteArray.data_extract,Array.toList_extract];simp[List.extract_eq_take_drop]
theorem mk_at (A:List UInt8)(c:UInt8)(r:List UInt8):U.at' ⟨(A++c::r).toArray⟩ A.length=c.toNat:=by
 have:=U.at_pre A [c] r 0 (by simp);simpa using this
theorem mk_at2 (A:List UInt8)(c d:UInt8)(r:List UInt8):U.at' ⟨(A++c::d::r).toArray⟩ (A.length+1)=d.toNat:=by
 have:=U.at_pre A [c,d] r 1 (by simp);simpa using this
theorem st_tok (A w r:List UInt8)(k:Nat)(br sq b q:Bool)(hw:w≠[])(h0:bl false (w++r)=0)(ht:tok ⟨(A++(w++r)).toArray⟩ A.length br sq=.ok k w.length b q) :
  go ⟨(A++(w++r)).toArray⟩ A.length br sq=(go ⟨((A++w)++r).toArray⟩ (A++w).length b q).pre [⟨k,⟨w.toArray⟩,A.length⟩]:=by
 have hl:0<w.length:=List.length_pos_iff.2 hw;rw[go_tok (by rw[mk_size];simp;omega) (by rw[mk_drop];exact h0) ht hl,mk_ext,List.length_append,List.append_assoc]
theorem st_blank (A r:List UInt8)(c:UInt8)(br sq:Bool)(hc:blank c.toNat=true):go ⟨(A++c::r).toArray⟩ A.length br sq=go ⟨((A++[c])++r).toArray⟩ (A++[c]).length br sq:=by
 have e:A++c::r=(A++[c])++r:=(by simp);refine(go_eq ?_).trans (by rw[e]);rw[mk_drop,bl_blank hc]
 conv=>rhs;rw[e]
 rw[mk_drop,List.length_append,List.length_singleton];omega
theorem st_end (A:List UInt8)(br sq:Bool):go ⟨A.toArray⟩ A.length br sq=.ok []:=go_done (by rw[mk_size];omega)
theorem nlen_app {b:Bool}:∀(w r:List UInt8),w.all (L.nok b)=true→(∀c t,r=c::t→L.nok b c=false)→L.nlen b (w++r)=w.length
 |[],[],_,_=>rfl
 |[],c::t,_,h=>L.nlen_no (h c t rfl)
 |x::w,r,ha,h=>by
  rw[List.all_cons,Bool.and_eq_true]at ha;rw[List.cons_append,L.nlen_yes ha.1,nlen_app w r ha.2 h,List.length_cons]
theorem tok_name (A:List UInt8)(c:UInt8)(w r:List UInt8)(br sq:Bool)(hc:nameB c.toNat br sq=true)(hw:(c::w).all (L.nok (!br && !sq))=true)(hr:∀d t,r=d::t→L.nok (!br && !sq) d=false) :
  tok ⟨(A++((c::w)++r)).toArray⟩ A.length br sq=.ok (nameK br (c::w)) (c::w).length br sq:=by
 unfold tok;rw[List.cons_append,mk_at,if_pos hc,mk_drop,←List.cons_append];unfold nameR;rw[nlen_app (c::w) r hw hr,List.take_left]
theorem name_bl (c:UInt8)(r:List UInt8)(br sq:Bool)(hc:nameB c.toNat br sq=true):bl false (c::r)=0:=by
 refine bl_none ?_ ?_
 ·unfold blank
  rw[decide_eq_false_iff_not];intro h;unfold nameB L.ltr at hc;rcases h with h|h|h|h<;>rw[h]at hc<;>simp at hc
 ·intro h
  unfold nameB L.ltr at hc;rw[h]at hc;simp at hc
theorem st_name (A:List UInt8)(c:UInt8)(w r:List UInt8)(br sq:Bool)(hc:nameB c.toNat br sq=true)(hw:(c::w).all (L.nok (!br && !sq))=true)(hr:∀d t,r=d::t→L.nok (!br && !sq) d=false) :
  go ⟨(A++((c::w)++r)).toArray⟩ A.length br sq=(go ⟨((A++(c::w))++r).toArray⟩ (A++(c::w)).length br sq).pre [⟨nameK br (c::w),⟨(c::w).toArray⟩,A.length⟩]:=
 st_tok A (c::w) r _ br sq br sq (by simp) (by rw[List.cons_append];exact name_bl c _ br sq hc) (tok_name A c w r br sq hc hw hr)
theorem st_lit (A r:List UInt8)(l:List Int)(br sq:Bool)(hl:U.allRunes l=true) :
  go ⟨(A++(U.quo l++r)).toArray⟩ A.length br sq=(go ⟨((A++U.quo l)++r).toArray⟩ (A++U.quo l).length br sq).pre [⟨5,⟨(U.quo l).toArray⟩,A.length⟩]:=by
 obtain⟨t,ht⟩:∃t,U.quo l=34::t:=⟨(U.encs l).flatMap U.wrQ++[34],rfl⟩
 refine st_tok A (U.quo l) r 5 br sq br sq (by rw[ht];simp) (by rw[ht,List.cons_append];exact bl_none (by decide) (by decide)) ?_;have e:=U.quo_literal l A r;have ha:U.at' ⟨(A++(U.quo l++r)).toArray⟩ A.length=34:=(by rw[ht,List.cons_append,mk_at];rfl);unfold tok;rw[ha,if_neg (by unfold nameB L.ltr;simp),if_neg (by unfold numB L.dgt;simp),if_pos (by decide)];unfold litK;rw[e,Int.toNat_natCast,mk_ext,U.quo_unquote l hl,if_neg (by simp),Nat.add_sub_cancel_left]
def opPlain (c:Nat):Bool:=decide (c=44∨c=123∨c=125)
theorem st_op (A r:List UInt8)(c:UInt8)(br sq:Bool)(hc:opPlain c.toNat=true) :
  go ⟨(A++([c]++r)).toArray⟩ A.length br sq=(go ⟨((A++[c])++r).toArray⟩ (A++[c]).length (if c.toNat=123 then true else if c.toNat=125 then false else br) sq).pre [⟨6,⟨#[c]⟩,A.length⟩]:=by
 unfold opPlain at hc;rw[decide_eq_true_eq]at hc;refine st_tok A [c] r 6 br sq _ sq (by simp) (by rw[List.singleton_append];refine bl_none ?_ (by omega);unfold blank;rw[decide_eq_false_iff_not];omega) ?_;unfold tok;rw[List.singleton_append,mk_at];generalize U.at' ⟨(A++c::r).toArray⟩ (A.length+1)=d;generalize (⟨(A++c::r).toArray⟩:ByteArray)=s;generalize A.length=p;rcases hc with h|h|h<;>rw[h]
 ·simp[nameB,L.ltr,numB,L.dgt,quoB,opR,two,single];done
 ·simp[nameB,L.ltr,numB,L.dgt,quoB,opR,two];done
 ·simp[nameB,L.ltr,numB,L.dgt,quoB,opR,two];done
theorem st_eq (A r:List UInt8)(br sq:Bool):go ⟨(A++([61]++34::r)).toArray⟩ A.length br sq=(go ⟨((A++[61])++34::r).toArray⟩ (A++[61]).length br sq).pre [⟨6,⟨#[61]⟩,A.length⟩]:=by
 refine st_tok A [61] (34::r) 6 br sq br sq (by simp) (bl_none (by decide) (by decide)) ?_;unfold tok;rw[List.singleton_append,mk_at,mk_at2];rfl
def pcT (x:Lb)(p:Nat):List Tk:=[⟨1,x.1,p⟩,⟨6,⟨#[61]⟩,p+x.1.data.toList.length⟩,⟨5,⟨(qv x.2).toArray⟩,p+x.1.data.toList.length+1⟩]
def bodyK:List Lb→Nat→List Tk
 |[],_=>[]
 |[x],p=>pcT x p
 |x::y::r,p=>pcT x p++(⟨6,⟨#[44]⟩,p+(pc x).length⟩::bodyK (y::r) (p+(pc x).length+2))
theorem lab_cons' {s:ByteArray}(h:L.lab s=true):∃c t,s.data.toList=c::t∧L.ltr c.toNat=true∧(c::t).all (L.nok false)=true:=by
 unfold L.lab at h;cases hl:s.data.toList with
 |nil=>rw[hl]at h;exact absurd h (by decide)
 |cons c t=>
  rw[hl]at h;unfold L.labL at h;rw[Bool.and_eq_true]at h;exact⟨c,t,rfl,h.1,h.2⟩
theorem nameK_lab (br:Bool)(l:List UInt8)(h:l.all (L.nok false)=true):nameK true l=1:=by
 unfold nameK;rw[if_neg,if_neg (by simp)];rw[List.any_eq_true];rintro⟨c,hc,h58⟩;have:=List.all_eq_true.1 h c hc;unfold L.nok L.ltr L.dgt at this;have e:c.toNat=58:=(by simpa using h58);rw[e]at this;exact absurd this (by decide)
theorem st_pc (A r:List UInt8)(x:Lb)(hx:L.lab x.1=true)(hv:U.valid x.2=true) :
  go ⟨(A++(pc x++r)).toArray⟩ A.length true false=(go ⟨((A++pc x)++r).toArray⟩ (A++pc x).length true false).pre (pcT x A.length):=by
 obtain⟨c,t,e,hc,ha⟩:=lab_cons' hx;obtain⟨l,hl,he⟩:=U.valid_encs hv;have hq:qv x.2=U.quo l:=(by unfold qv U.quo;rw[he]);obtain⟨u,hu⟩:∃u,U.quo l=34::u:=⟨(U.encs l).flatMap U.wrQ++[34],rfl⟩
 have h1:=st_name A c t ([61]++(U.quo l++r)) true false (by unfold nameB;rw[hc];rfl) ha (fun d t h=>by simp at h;rw[←h.1];decide);have h2:=st_eq (A++(c::t)) (u++r) true false;have h3:=st_lit ((A++(c::t))++[61]) r l true false hl;have e1:pc x++r=(c::t)++([61]++(U.quo l++r)):=(by unfold pc;rw[e,hq,List.append_assoc,List.append_assoc]);have e2:34::(u++r)=U.quo l++r:=(by rw[hu,List.cons_append]);have e3:((A++(c::t))++[61])++U.quo l=A++pc x:=(by unfold pc;rw[e,hq,List.append_assoc,List.append_assoc]);have e4:nameK true (c::t)=1:=nameK_lab true _ ha
 have e5:(⟨(c::t).toArray⟩:ByteArray)=x.1:=(by rw[e]:(⟨(c::t).toArray⟩:ByteArray)=⟨x.1.data.toList.toArray⟩).trans (ba_eq _);rw[e2]at h2;rw[e1,h1,h2,h3,e3,Out.pre_pre,Out.pre_pre,e4,e5];unfold pcT;rw[e,hq];simp only[List.length_append,List.length_cons,List.length_nil,List.cons_append,List.nil_append,Nat.add_assoc]
theorem st_body:∀(l:List Lb) (A r:List UInt8),(∀x∈l,L.lab x.1=true∧U.valid x.2=true)→
  go ⟨(A++(bodyT l++r)).toArray⟩ A.length true false=(go ⟨((A++bodyT l)++r).toArray⟩ (A++bodyT l).length true false).pre (bodyK l A.length)
 |[],A,r,_=>by simp only[bodyT,bodyK,List.nil_append,List.append_nil,Out.pre_nil]
 |[x],A,r,h=>st_pc A r x (h x (by simp)).1 (h x (by simp)).2
 |x::y::l,A,r,h=>by
  have h1:=st_pc A ([44]++(32::(bodyT (y::l)++r))) x (h x (by simp)).1 (h x (by simp)).2;have h2:=st_op (A++pc x) (32::(bodyT (y::l)++r)) 44 true false (by decide);rw[show (if (44:UInt8).toNat=123 then true else if (44:UInt8).toNat=125 then false else true)=true from rfl]at h2;have h3:=st_blank ((A++pc x)++[44]) (bodyT (y::l)++r) 32 true false (by decide);have h4:=st_body (y::l) (((A++pc x)++[44])++[32]) r (fun z hz=>h z (List.mem_cons_of_mem _ hz));have e1:bodyT (x::y::l)=pc x++([44]++([32]++bodyT (y::l))):=rfl
  have e2:bodyK (x::y::l) A.length=pcT x A.length++(⟨6,⟨#[44]⟩,A.length+(pc x).length⟩::bodyK (y::l) (A.length+(pc x).length+2)):=rfl;have e0:A++(bodyT (x::y::l)++r)=A++(pc x++([44]++(32::(bodyT (y::l)++r)))):=(by rw[e1];simp only[List.append_assoc,List.cons_append,List.nil_append]);have e3:(((A++pc x)++[44])++[32])++bodyT (y::l)=A++bodyT (x::y::l):=(by rw[e1];simp only[List.append_assoc]);have e4:(A++pc x).length=A.length+(pc x).length:=by rw[List.length_append]
  have e5:(((A++pc x)++[44])++[32]).length=A.length+(pc x).length+2:=(by simp only[List.length_append,List.length_singleton,Nat.add_assoc]);rw[e0,h1,h2,h3,h4,Out.pre_pre,Out.pre_pre,e3,e2,e4,e5];rfl
def cK (nm:Option ByteArray)(l:List Lb):List Tk:=
 match nm with
 |none=>⟨6,⟨#[123]⟩,0⟩::(bodyK l 1++[⟨6,⟨#[125]⟩,1+(bodyT l).length⟩])
 |some m=>if l=[] then [⟨nameK false m.data.toList,m,0⟩] else ⟨nameK false m.data.toList,m,0⟩::⟨6,⟨#[123]⟩,m.data.toList.length⟩::(bodyK l (m.data.toList.length+1)++[⟨6,⟨#[125]⟩,m.data.toList.length+1+(bodyT l).length⟩])
theorem st_braced (A:List UInt8)(l:List Lb)(h:∀x∈l,L.lab x.1=true∧U.valid x.2=true) :
  go ⟨(A++([123]++(bodyT l++[125]))).toArray⟩ A.length false false=.ok (⟨6,⟨#[123]⟩,A.length⟩::(bodyK l (A.length+1)++[⟨6,⟨#[125]⟩,A.length+1+(bodyT l).length⟩])):=by
 have h1:=st_op A (bodyT l++[125]) 123 false false (by decide);rw[show (if (123:UInt8).toNat=123 then true else if (123:UInt8).toNat=125 then false else false)=true from rfl]at h1;have h2:=st_body l (A++[123]) [125] h;have h3:=st_op ((A++[123])++bodyT l) [] 125 true false (by decide);rw[show (if (125:UInt8).toNat=123 then true else if (125:UInt8).toNat=125 then false else true)=false from rfl,List.append_nil,List.append_nil,st_end]at h3;have e1:(A++[123]).length=A.length+1:=(by simp);have e2:((A++[123])++bodyT l).length=A.length+1+(bodyT l).length:=by rw[List.length_append,e1]
 rw[h1,h2,h3,Out.pre_pre,Out.pre,Out.pre,e1,e2];simp
theorem isMet_cons {s:ByteArray}(h:isMet s=true):∃c t,s.data.toList=c::t∧nameB c.toNat false false=true∧(c::t).all (L.nok true)=true:=by
 unfold isMet at h;cases hl:s.data.toList with
 |nil=>rw[hl]at h;exact absurd h (by decide)
 |cons c t=>
  rw[hl]at h;simp only[Bool.and_eq_true,Bool.not_eq_true']at h;refine⟨c,t,rfl,?_,h.2⟩;have h1:=List.all_eq_true.1 h.2 c (by simp);unfold L.nok at h1;rw[h.1,Bool.or_false]at h1;unfold nameB;simpa using h1
theorem go_cT (nm:Option ByteArray)(l:List Lb)(hn:∀m,nm=some m→isMet m=true)(h:∀x∈l,L.lab x.1=true∧U.valid x.2=true) :
  go ⟨(cT nm l).toArray⟩ 0 false false=.ok (cK nm l):=by
 cases nm with
 |none=>exact st_braced [] l h
 |some m=>
  obtain⟨c,t,e,hc,ha⟩:=isMet_cons (hn m rfl);have em:(⟨(c::t).toArray⟩:ByteArray)=m:=(by rw[e]:(⟨(c::t).toArray⟩:ByteArray)=⟨m.data.toList.toArray⟩).trans (ba_eq _);unfold cT cK;simp only;by_cases hl:l=[]
  ·rw[if_pos hl,if_pos hl]
   have h1:=st_name [] c t [] false false hc ha (fun d t h=>by cases h);simp only[List.append_nil,List.nil_append,List.length_nil]at h1;rw[st_end,em]at h1;rw[e,em];exact h1
  ·rw[if_neg hl,if_neg hl]
   have h1:=st_name [] c t ([123]++(bodyT l++[125])) false false hc ha (fun d t h=>by simp at h;rw[←h.1];decide);rw[List.nil_append,List.nil_append,st_braced (c::t) l h,em]at h1;rw[e];exact h1
end SC
namespace SC
def isOp (t:Tk)(c:UInt8):Bool:=decide (t.kind=6∧t.text=⟨#[c]⟩)
def uq (t:Tk):ByteArray:=⟨(U.unquote t.text).1.toArray⟩
def tri (a b v:Tk):Bool:=decide (a.kind=1) && (isOp b 61 && decide (v.kind=5))
def rdB:List Tk→Option (List Lb)
 |[]=>some []
 |[a,b,v]=>if tri a b v then some [(a.text,uq v)] else none
 |a::b::v::c::r=>if tri a b v && isOp c 44 then(rdB r).map ((a.text,uq v) :: ·) else none
 |_=>none
def braced (T:List Tk):Option (List Lb):=
 match T with
 |[]=>none
 |t::r=>if isOp t 123 && (match r.getLast? with|some u=>isOp u 125|none=>false) then rdB r.dropLast else none
def kMet (t:Tk):Bool:=decide (t.kind=1∨t.kind=2) ||(decide (t.kind=3) && L.lab t.text)
def rd (T:List Tk):Option (List Lb):=
 match T with
 |[]=>none
 |t::r=>if kMet t then(if r=[] then some [(nmB,t.text)] else(braced r).map ((nmB,t.text) :: ·)) else braced (t::r)
theorem qv_unq {v:ByteArray}(h:U.valid v=true):U.unquote ⟨(qv v).toArray⟩=(v.data.toList,0):=by
 obtain⟨l,hl,he⟩:=U.valid_encs h;have:=U.quo_unquote l hl;have hq:qv v=U.quo l:=(by unfold qv U.quo;rw[he]);rw[hq,this,he]
theorem qv_uq {v:ByteArray}(h:U.valid v=true)(p:Nat):uq ⟨5,⟨(qv v).toArray⟩,p⟩=v:=by
 unfold uq;rw[qv_unq h]
 first|done|exact ba_eq v
theorem rdB_body:∀(l:List Lb) (p:Nat),(∀x∈l,L.lab x.1=true∧U.valid x.2=true)→rdB (bodyK l p)=some l
 |[],_,_=>rfl
 |[x],p,h=>by
  show (if tri _ _ _ then some [(x.1,uq ⟨5,⟨(qv x.2).toArray⟩,_⟩)] else none)=_
  rw[if_pos (by rfl),qv_uq (h x (by simp)).2]
 |x::y::l,p,h=>by
  show (if tri _ _ _ && isOp _ 44 then(rdB (bodyK (y::l) (p+(pc x).length+2))).map ((x.1,uq ⟨5,⟨(qv x.2).toArray⟩,_⟩) :: ·) else none)=_
  rw[if_pos (by rfl),qv_uq (h x (by simp)).2,rdB_body (y::l) _ (fun z hz=>h z (List.mem_cons_of_mem _ hz))];rfl
theorem braced_body (l:List Lb)(p q k:Nat)(h:∀x∈l,L.lab x.1=true∧U.valid x.2=true):braced (⟨6,⟨#[123]⟩,p⟩::(bodyK l q++[⟨6,⟨#[125]⟩,k⟩]))=some l:=by
 unfold braced;simp only;rw[List.getLast?_append,List.getLast?_singleton,List.dropLast_concat,rdB_body l q h];rfl
theorem nameK_met (s:ByteArray)(h:isMet s=true)(p:Nat):kMet ⟨nameK false s.data.toList,s,p⟩=true:=by
 obtain⟨c,t,e,hc,ha⟩:=isMet_cons h;unfold kMet nameK;simp only;by_cases h1:s.data.toList.any (fun c=>c.toNat==58)=true
 ·rw[if_pos h1];rfl
 ·rw[if_neg h1]
  by_cases h2:(!false && isNum s.data.toList)=true
  ·rw[if_pos h2]
   have h3:L.lab s=true:=by
    unfold L.lab;rw[e];unfold L.labL;rw[Bool.and_eq_true];rw[e]at h1;have hn:∀x∈c::t,(x.toNat==58)=false:=fun x hx=>by
     cases hq:x.toNat==58 with
     |false=>rfl
     |true=>exact absurd (List.any_eq_true.2 ⟨x,hx,hq⟩) h1
    refine⟨?_,?_⟩
    ·unfold nameB at hc
     rw[hn c (by simp)]at hc;simpa using hc
    ·rw[List.all_eq_true]
     intro x hx;have:=List.all_eq_true.1 ha x hx;unfold L.nok at this ⊢;rw[hn x hx]at this;simpa using this
   rw[h3];rfl
  ·rw[if_neg h2];rfl
theorem rd_cK (nm:Option ByteArray)(l:List Lb)(hn:∀m,nm=some m→isMet m=true)(h:∀x∈l,L.lab x.1=true∧U.valid x.2=true) :
  rd (cK nm l)=some (match nm with|none=>l|some m=>(nmB,m)::l):=by
 cases nm with
 |none=>
  unfold cK rd;simp only;rw[if_neg (by decide),braced_body l _ _ _ h]
 |some m=>
  unfold cK;simp only;by_cases hl:l=[]
  ·rw[if_pos hl]
   unfold rd;simp only;rw[if_pos (nameK_met m (hn m rfl) 0)];simp[hl]
  ·rw[if_neg hl]
   unfold rd;simp only;rw[if_pos (nameK_met m (hn m rfl) 0),if_neg (by simp),braced_body l _ _ _ h];rfl
end SC
end Go.Proofs.YtieknenhfeejiaaGreatDoor
namespace Go.Proofs.YtieknenhfeejiaaGreatDoor
open _root_.Go.Proofs.Tryz
open Go.RowKit
namespace SC
def lowU (c:UInt8):UInt8:=if 65≤c.toNat∧c.toNat≤90 then c+32 else c
def lowS (s:ByteArray):ByteArray:=⟨(s.data.toList.map lowU).toArray⟩
theorem lowU_yes {c:UInt8}(h:65≤c.toNat∧c.toNat≤90):(lowU c).toNat=c.toNat+32:=by
 unfold lowU;rw[if_pos h,UInt8.toNat_add];have:(32:UInt8).toNat=32:=rfl;omega
theorem lowU_no {c:UInt8}(h:¬ (65≤c.toNat∧c.toNat≤90)):lowU c=c:=by
 unfold lowU;rw[if_neg h]
end SC
def Bm (w:World)(g:Nat)(e:TypeId)(L:List Value):Prop:=∃m,L.length≤m∧w.heap[g]?=some (.cells L.toArray e (m,m+1))
section
variable {w w':World} {g:Nat} {e:TypeId} {L:List Value}
theorem Bm.cell (h:Bm w g e L)(j:Nat)(hj:j<L.length):w.cell? ⟨g,j,none⟩=some (L[j]'hj):=by
 obtain⟨m,_,h⟩:=h;rw[cell_of_row w g j L.toArray e (m,m+1) h];simp[hj]
theorem Bm.frozen (h:Bm w g e L)(j:Nat)(hj:j<L.length):w.frozen? ⟨g,j,none⟩=false:=by
 obtain⟨m,hm,h⟩:=h;simp only[World.frozen?,h];simp;omega
theorem Bm.set (h:Bm w g e L)(j:Nat)(u:Value):Bm (w.setCell ⟨g,j,none⟩ u) g e (L.set j u):=by
 obtain⟨m,hm,h⟩:=h;refine⟨m,by rwa[List.length_set],?_⟩;have e:(w.setCell ⟨g,j,none⟩ u).heap[g]?=some (.cells (L.toArray.setIfInBounds j u) e (m,m+1)):=by
  simp[World.setCell,Array.getElem?_modify,h]
 rw[e];simp
theorem Bm.isL (h:Bm w g e L)(n c:Nat)(hn:n≤L.length):IsL 1 w (.slice (some ⟨g,0,none⟩) n c) n (L.take n):=by
 refine⟨by rw[List.length_take];omega,_,c,rfl,fun k hk=>⟨g,0,rfl,?_⟩⟩;rw[List.length_take]at hk;rw[Nat.zero_add,h.cell k (by omega),List.getElem_take]
end
section
variable {P:Program} {ops:Array Oper} {rest:List Oper} {o:Oper} {a:Act} {Q:Exit→Act→World→Prop}
theorem wpList_bytes_bk (w:World)(src dst e:TypeId)(s:ByteArray)(hs:P.underlying src=some .string)(hd:P.underlying dst=some (.slice e))(he:P.underlying e=some (.int .u8))
  (hg:Region.wanted o (yielded ops a.tmps)=true)(x:Operand)(ho:o.op=.convert src dst x)(hx:a.eval x=.string s)
  (h:∀cap R w',Below w.heap.size w w'→w.heap.size<w'.heap.size→Bm w' w.heap.size e (cellsB s.data.toList++R)→wpList P ops Q rest (a.put o.dst (.slice (some ⟨w.heap.size,0,none⟩) s.size cap)) w') :
  wpList P ops Q (o::rest) a w:=by
 refine wpList_wanted hg fun K hK=>?_
 have hr:=run_bytes_of_string (P:=P) w src dst e s hs hd he;unfold Oper.wp execOp;simp only[ho,hx,hr,Sem.run_bind,Result.andThen_ok,Sem.run_pure];refine hK _ _ (h _ (List.replicate (grownCap w s.size 0 e-s.size) (.int .u8 0)) _ ((Below.refl _ _).drew.alloc (Nat.le_refl _) _) (by simp) ?_);have hh:∀(W:World) (o:Obj),(W.alloc o).heap[W.heap.size]?=some o:=fun W o=>by
  show (W.heap.push o)[W.heap.size]?=_
  simp
 have e1:bytesRow s (grownCap w s.size 0 e)=(cellsB s.data.toList++List.replicate (grownCap w s.size 0 e-s.size) (Value.int .u8 0)).toArray:=by
  unfold bytesRow cellsB;apply Array.ext';simp
 refine⟨(bytesRow s (grownCap w s.size 0 e)).size,?_,?_⟩
 ·rw[e1];simp
 ·refine(hh w.drew _).trans ?_
  rw[e1]
end
theorem cellsB_snoc (A:List UInt8)(c:UInt8):cellsB (A++[c])=cellsB A++[.int .u8 (c.toNat:Int)]:=by simp[cellsB]
theorem set_mid (A B:List Value)(x y:Value)(k:Nat)(hk:A.length=k):(A++x::B).set k y=A++y::B:=by
 subst hk;rw[List.set_append_right _ _ (Nat.le_refl _),Nat.sub_self];rfl
theorem SC.low_step (l:List UInt8)(k:Nat)(h:k<l.length)(R:List Value):cellsB ((l.take k).map SC.lowU)++(cellsB (l.drop k)++R)=cellsB ((l.take k).map SC.lowU)++.int .u8 (((l[k]'h).toNat:Nat):Int)::(cellsB (l.drop (k+1))++R):=by
 rw[List.drop_eq_getElem_cons h];rfl
theorem SC.low_next (l:List UInt8)(k:Nat)(h:k<l.length)(R:List Value):cellsB ((l.take k).map SC.lowU)++.int .u8 (((SC.lowU (l[k]'h)).toNat:Nat):Int)::(cellsB (l.drop (k+1))++R)=cellsB ((l.take (k+1)).map SC.lowU)++(cellsB (l.drop (k+1))++R):=by
 rw[List.take_succ_eq_append_getElem h,List.map_append,cellsB_app];simp[cellsB]
theorem sclower_any (s:ByteArray)(w:World)(hs:s.size≤1125899906842624) :
  Calls prog 115 #[.string s] w fun e w'=>e=.returned (.string (SC.lowS s))∧Below w.heap.size w w':=by
 go_enter func115,ntmps115;go_wp2_with (refine wpList_bytes_bk _ 9 63 5 _ underlying9 underlying63 underlying5 rfl _ rfl rfl ?_)
 intro cap R w2 hb2 hlt2 hk2;have HB2:=hd hb2;have HK2:=hd hk2;obtain⟨g,hg⟩:∃g,g=w.heap.size:=⟨_,rfl⟩
 rw[←hg]at HK2;have HG:=hd hg;clear hb2 hk2 hlt2;rw[←hg];clear hg;go_wp2;go_loopw [10] (fun x wr=>∃k:Nat,k≤s.size∧x=.int .i64 k∧Hd (Bm wr g 5 (cellsB ((s.data.toList.take k).map SC.lowU)++(cellsB (s.data.toList.drop k)++R)))∧Hd (Below w.heap.size w wr)) (fun x _=>s.size-(intOf x).toNat)
 case atStart=>exact⟨0,Nat.zero_le _,rfl,hd (by simpa[cellsB] using HK2.o),HB2⟩
 case round=>
  obtain⟨k,hk,rfl,HK,HB⟩:=hrel;by_cases hlt:k<s.size
  ·have hkl:k<s.data.toList.length:=by rw[←Lib.size_eq];exact hlt
   have hltI:(k:Int)<(s.size:Int):=(by omega);have hc:(s.data.toList[k]'hkl).toNat<256:=(s.data.toList[k]'hkl).toNat_lt;have hlen:(cellsB ((s.data.toList.take k).map SC.lowU)).length=k:=(by rw[cellsB_len,List.length_map,List.length_take];omega);have HK':=HK.o;rw[SC.low_step _ k hkl]at HK';have HN:=hd (SC.low_next s.data.toList k hkl R);have c1:=HK'.cell k (by rw[List.length_append,hlen,List.length_cons];omega);rw[List.getElem_append_right (by omega)]at c1;simp only[hlen,Nat.sub_self,List.getElem_cons_zero]at c1;have c2:=HK'.frozen k (by rw[List.length_append,hlen,List.length_cons];omega)
   by_cases hcap:65≤(s.data.toList[k]'hkl).toNat∧(s.data.toList[k]'hkl).toNat≤90
   ·have HS:=hd (HK'.set k (.int .u8 (((SC.lowU (s.data.toList[k]'hkl)).toNat:Nat):Int)))
    rw[set_mid _ _ _ _ k hlen,HN.o,SC.lowU_yes hcap]at HS;obtain⟨h65,h90⟩:=hcap;clear HK HK' HN hlen;generalize (s.data.toList[k]'hkl).toNat=c at *;go_wp2;go_roundw
    case rel=>exact⟨k+1,by omega,by go_num,HS,hd (HB.o.setCell (by show w.heap.size≤g;rw[HG.o];exact Nat.le_refl _) _)⟩
    case measure=>simp[intOf];omega
   ·have HS:=hd HK'
    rw[SC.lowU_no hcap]at HN;rw[HN.o]at HS;clear HK HK' HN hlen;generalize (s.data.toList[k]'hkl).toNat=c at *;by_cases h65:65≤c
    ·have h90:¬ c≤90:=by omega
     go_wp2;go_roundw
     case rel=>exact⟨k+1,by omega,by go_num,HS,HB⟩
     case measure=>simp[intOf];omega
    ·go_wp2
     go_roundw
     case rel=>exact⟨k+1,by omega,by go_num,HS,HB⟩
     case measure=>simp[intOf];omega
  ·have e:s.data.toList.take k=s.data.toList:=List.take_of_length_le (by rw[←Lib.size_eq];omega)
   rw[e]at HK;have hI:=HK.o.isL s.size cap (by rw[List.length_append,cellsB_len,List.length_map,←Lib.size_eq];omega);rw[List.take_append_of_le_length (by rw[cellsB_len,List.length_map,←Lib.size_eq];omega),List.take_of_length_le (by rw[cellsB_len,List.length_map,←Lib.size_eq];omega)]at hI;have hcv:=run_string_of (P:=prog) wr 63 9 5 underlying63 underlying5 underlying9 _ _ _ hI;clear hI HK;go_wp2;go_ret;exact⟨rfl,HB.o⟩
theorem info_u8l:(prog.info? 5).map (fun i=>(i.zero,i.size,i.bytes))=some (some (.int .u8 0),1,1):=by kernel_rfl
theorem scsmall_any (s:ByteArray)(w:World)(hs:s.size≤1099511627776) :
  Calls prog 90 #[.string s] w fun e w'=>e=.returned (.string (SC.lowS s))∧Below w.heap.size w w':=by
 go_enter func90,ntmps90;go_wp2_with (at_make;refine wpList_mk0 _ 63 5 (.int .u8 0) 1 1 underlying63 info_u8l rfl _ _ rfl w.heap.size _ _ s.size rfl rfl ?b1 ?b2 ?b3 ?_)
 case b1=>omega
 case b2=>omega
 case b3=>exact Nat.le_refl _
 intro w2 ho hg;have hb2:=hd (bel_grown (Below.refl _ _) hg (fun k h=>by cases h));have HO2:=hd ho;clear hg ho;go_wp2;go_loopw [3,4,5] (fun o x z wr=>∃k:Nat,k≤s.size∧x=.int .i64 k∧Hd (wr.ownsRow w.heap.size 5 1 o k (cellsB ((s.data.toList.take k).map SC.lowU)))∧Hd (Below w.heap.size w wr)) (fun _ x _ _=>s.size-(intOf x).toNat)
 case atStart=>exact⟨0,Nat.zero_le _,rfl,hd (by simpa[cellsB] using HO2.o),hb2⟩
 case round=>
  obtain⟨k,hk,rfl,HO,HBW⟩:=hrel;have hzr:=HBW.o.size;by_cases hlt:k<s.size
  ·have hkl:k<s.data.toList.length:=by rw[←Lib.size_eq];exact hlt
   have hltI:(k:Int)<(s.size:Int):=(by omega);have e1:(s.data.toList[k]'hkl)=s[k]'hlt:=rfl;have hc:(s[k]'hlt).toNat<256:=(s[k]'hlt).toNat_lt;have HNX:Hd (cellsB ((s.data.toList.take (k+1)).map SC.lowU)=cellsB ((s.data.toList.take k).map SC.lowU)++[.int .u8 (((SC.lowU (s[k]'hlt)).toNat:Nat):Int)]):=hd <|by
    rw[List.take_succ_eq_append_getElem hkl,List.map_append,List.map_singleton,cellsB_snoc];rfl
   by_cases hcap:65≤(s[k]'hlt).toNat∧(s[k]'hlt).toNat≤90
   ·rw[SC.lowU_yes hcap,Int.natCast_add]at HNX
    obtain⟨h65,h90⟩:=hcap;go_wp2_with (at_builtin;(refine wpList_app_litH 63 5 (.int .u8 0) 1 1 underlying63 info_u8l rfl (by decide) rfl _ _ rfl w.heap.size u3 k _ _ #[.int .u8 (((s[k]'hlt).toNat:Int)+32)] 1 _ (by simp) rfl rfl HO.o rfl (by simp[Value.oneCell']) (by omega) (by omega) (by first|omega|(simp;omega)) ?_))
    intro v3 w3 ho3 hg3;have HB3:=hd (bel_grown HBW.o hg3 (fun g h=>(HO.o.lt g h).1));have HO3:Hd (w3.ownsRow w.heap.size 5 1 v3 (k+1) (cellsB ((s.data.toList.take (k+1)).map SC.lowU))):=hd (by rw[HNX.o];simpa[List.map_take] using ho3);clear hg3 ho3;go_wp2;go_roundw
    case rel=>exact⟨k+1,by omega,by go_num,HO3,HB3⟩
    case measure=>simp[intOf];omega
   ·rw[SC.lowU_no hcap]at HNX
    by_cases h65:65≤(s[k]'hlt).toNat
    ·have h90:¬ (s[k]'hlt).toNat≤90:=by omega
     go_wp2_with (at_builtin;refine wpList_app_litH 63 5 (.int .u8 0) 1 1 underlying63 info_u8l rfl (by decide) rfl _ _ rfl w.heap.size u3 k _ _ #[.int .u8 ((s[k]'hlt).toNat:Int)] 1 _ (by simp) rfl rfl HO.o rfl (by simp[Value.oneCell']) (by omega) (by omega) (by first|omega|(simp;omega)) ?_)
     intro v3 w3 ho3 hg3;have HB3:=hd (bel_grown HBW.o hg3 (fun g h=>(HO.o.lt g h).1));have HO3:Hd (w3.ownsRow w.heap.size 5 1 v3 (k+1) (cellsB ((s.data.toList.take (k+1)).map SC.lowU))):=hd (by rw[HNX.o];simpa[List.map_take] using ho3);clear hg3 ho3;go_wp2;go_roundw
     case rel=>exact⟨k+1,by omega,by go_num,HO3,HB3⟩
     case measure=>simp[intOf];omega
    ·go_wp2_with (at_builtin;refine wpList_app_litH 63 5 (.int .u8 0) 1 1 underlying63 info_u8l rfl (by decide) rfl _ _ rfl w.heap.size u3 k _ _ #[.int .u8 ((s[k]'hlt).toNat:Int)] 1 _ (by simp) rfl rfl HO.o rfl (by simp[Value.oneCell']) (by omega) (by omega) (by first|omega|(simp;omega)) ?_)
     intro v3 w3 ho3 hg3;have HB3:=hd (bel_grown HBW.o hg3 (fun g h=>(HO.o.lt g h).1));have HO3:Hd (w3.ownsRow w.heap.size 5 1 v3 (k+1) (cellsB ((s.data.toList.take (k+1)).map SC.lowU))):=hd (by rw[HNX.o];simpa[List.map_take] using ho3);clear hg3 ho3;go_wp2;go_roundw
     case rel=>exact⟨k+1,by omega,by go_num,HO3,HB3⟩
     case measure=>simp[intOf];omega
  ·have e:s.data.toList.take k=s.data.toList:=List.take_of_length_le (by rw[←Lib.size_eq];omega)
   obtain rfl:k=s.size:=by omega
   rw[e]at HO;have hI:=IsL.own HO.o;have hcv:=run_string_of (P:=prog) wr 63 9 5 underlying63 underlying5 underlying9 _ _ _ hI;clear hI HO;go_wp2;go_ret;exact⟨rfl,HBW.o⟩
end Go.Proofs.YtieknenhfeejiaaGreatDoor
namespace Go.Proofs.YtieknenhfeejiaaGreatDoor
open _root_.Go.Proofs.Tryz
open Go.RowKit
def rupd (xs:Nat→Value)(i:Nat)(v:Value):Nat→Value:=fun j=>if j=i then v else xs j
theorem rupd_same (xs:Nat→Value)(i:Nat)(v:Value):rupd xs i v i=v:=by simp[rupd]
theorem rupd_ne (xs:Nat→Value){i j:Nat}(v:Value)(h:j≠i):rupd xs i v j=xs j:=by simp[rupd,h]
section
variable {P:Program} {ops:Array Oper} {Q:Exit→Act→World→Prop} {md:Region.Mode}
theorem ready_some (hac:∀(i:Nat) (o:Oper),ops[i]?=some o→∀e∈o.after,e.on<i)(listed:Array Bool)(hs:listed.size=ops.size)(hr:Region.ready md ops listed=[]) :
  ∀i,i<ops.size→listed.getD i true=true:=by
 intro i;induction i using Nat.strongRecOn with
 |_ i ih=>
  intro hi;cases hl:listed.getD i true with
  |true=>rfl
  |false=>
   have hmem:i∈Region.ready md ops listed:=by
    rw[mem_ready];refine⟨hl,ops[i],by simp[hi],fun e he _=>?_⟩;have hlt:=hac i ops[i] (by simp[hi]) e he;have h1:=ih e.on hlt (by omega);have hlt':e.on<listed.size:=(by omega);simp[hlt']at h1 ⊢;exact h1
   rw[hr]at hmem;cases hmem
theorem ready_nil (listed:Array Bool)(h:∀i,i<ops.size→listed.getD i true=true):Region.ready md ops listed=[]:=by
 rw[List.eq_nil_iff_forall_not_mem];intro i hi;obtain⟨h0,o,ho,_⟩:=mem_ready.1 hi;have:=h i (Array.getElem?_eq_some_iff.1 ho).1;rw[this]at h0;cases h0
theorem wpOp_void {i:Nat}{o:Oper}{a:Act}{w w':World}{K:Act→World→Prop}(hi:ops[i]?=some o)(hg:o.guard=none)(hr:(execOp a.eval o).run P w=.ok .skip w')(h:K (a.put o.dst undef) w'):wpOp P ops Q i K a w:=by
 have hw:Region.wanted o (yielded ops a.tmps)=true:=(by simp[Region.wanted,hg]);unfold wpOp;simp only[hi,hw,if_true,Oper.wp,hr,Oper.upon];exact .inl h
def putL (a:Act):List (Option Tmp)→(Nat→Value)→Nat→Act
 |[],_,_=>a
 |d::ds,ys,k=>putL (a.put d (ys k)) ds ys (k+1)
def okDs:List (Option Tmp)→Bool
 |[]=>true
 |none::ds=>okDs ds
 |some d::ds=>!ds.contains (some d) && okDs ds
theorem put_put (a:Act)(d:Option Tmp)(u v:Value):(a.put d u).put d v=a.put d v:=by
 cases d with
 |none=>rfl
 |some d=>simp[Act.put,Array.setIfInBounds];split<;>simp_all
theorem put_self (a:Act)(d:Tmp):a.put (some d) (a.eval (.tmp d))=a:=by
 unfold Act.put Act.eval;simp only[Array.setIfInBounds];split
 ·rename_i h
  simp
 ·rfl
theorem putL_congr:∀(ds:List (Option Tmp)) (a:Act) (ys zs:Nat→Value) (k:Nat),(∀j,k≤j→ys j=zs j)→putL a ds ys k=putL a ds zs k
 |[],a,ys,zs,k,h=>rfl
 |d::ds,a,ys,zs,k,h=>by
  unfold putL;rw[h k (Nat.le_refl _)];exact putL_congr ds _ ys zs (k+1) (fun j hj=>h j (by omega))
theorem putL_comm:∀(ds:List (Option Tmp)) (a:Act) (ys:Nat→Value) (k:Nat) (d:Tmp) (v:Value),ds.contains (some d)=false→(putL a ds ys k).put (some d) v=putL (a.put (some d) v) ds ys k
 |[],a,ys,k,d,v,h=>rfl
 |x::ds,a,ys,k,d,v,h=>by
  unfold putL;simp only[List.contains_cons,Bool.or_eq_false_iff]at h;rw[putL_comm ds _ ys (k+1) d v h.2,Act.put_comm a (x:=x) (y:=some d) (ys k) v (fun e he hh=>by
   subst he;have:=Option.some.inj hh;subst this;simp at h)]
theorem putL_put:∀(ds:List (Option Tmp)) (a:Act) (ys:Nat→Value) (k i:Nat) (d:Option Tmp) (v:Value),ds[i]?=some d→okDs ds=true→(putL a ds ys k).put d v=putL a ds (rupd ys (k+i) v) k
 |[],a,ys,k,i,d,v,h,_=>by simp at h
 |x::ds,a,ys,k,0,d,v,h,ho=>by
  obtain rfl:x=d:=by simpa using h
  unfold putL;show _=putL (a.put x (rupd ys k v k)) ds (rupd ys k v) (k+1)
  rw[rupd_same];have e:=putL_congr ds (a.put x v) (rupd ys k v) ys (k+1) (fun j hj=>rupd_ne _ _ (by omega));rw[e];cases x with
  |none=>rfl
  |some x=>
   unfold okDs at ho;simp only[Bool.and_eq_true,Bool.not_eq_true']at ho;rw[putL_comm ds _ ys (k+1) x v ho.1,put_put]
 |x::ds,a,ys,k,i+1,d,v,h,ho=>by
  have h':ds[i]?=some d:=(by simpa using h);have ho':okDs ds=true:=by
   cases x with
   |none=>exact ho
   |some x=>unfold okDs at ho;simp only[Bool.and_eq_true]at ho;exact ho.2
  unfold putL;rw[putL_put ds (a.put x (ys k)) ys (k+1) i d v h' ho',rupd_ne ys v (show k≠k+(i+1) by omega),show k+1+i=k+(i+1) by omega]
theorem eval_put_ne (a:Act)(d:Option Tmp)(v:Value)(t:Tmp)(h:d≠some t):(a.put d v).eval (.tmp t)=a.eval (.tmp t):=
 Act.eval_put fun x hx hh=>by
  injection hh with hh
  subst hh;exact h hx
theorem eval_put_eq (a:Act)(t:Tmp)(v:Value)(h:t<a.tmps.size):(a.put (some t) v).eval (.tmp t)=v:=by
 simp[Act.put,Act.eval,h]
theorem size_put (a:Act)(d:Option Tmp)(v:Value):(a.put d v).tmps.size=a.tmps.size:=by
 cases d<;>simp[Act.put]
theorem putL_miss:∀(ds:List (Option Tmp)) (a:Act) (ys:Nat→Value) (k:Nat) (t:Tmp),ds.contains (some t)=false→(putL a ds ys k).eval (.tmp t)=a.eval (.tmp t)
 |[],a,ys,k,t,h=>rfl
 |x::ds,a,ys,k,t,h=>by
  unfold putL;simp only[List.contains_cons,Bool.or_eq_false_iff]at h;rw[putL_miss ds _ ys (k+1) t h.2,eval_put_ne _ _ _ _ (fun hh=>by subst hh;simp at h)]
theorem putL_hit:∀(ds:List (Option Tmp)) (a:Act) (ys:Nat→Value) (k i:Nat) (t:Tmp),ds[i]?=some (some t)→okDs ds=true→t<a.tmps.size→(putL a ds ys k).eval (.tmp t)=ys (k+i)
 |[],a,ys,k,i,t,h,_,_=>by simp at h
 |x::ds,a,ys,k,0,t,h,ho,hs=>by
  obtain rfl:x=some t:=by simpa using h
  unfold putL;unfold okDs at ho;simp only[Bool.and_eq_true,Bool.not_eq_true']at ho;rw[putL_miss ds _ ys (k+1) t ho.1,eval_put_eq _ _ _ hs,Nat.add_zero]
 |x::ds,a,ys,k,i+1,t,h,ho,hs=>by
  have h':ds[i]?=some (some t):=(by simpa using h);have ho':okDs ds=true:=by
   cases x with
   |none=>exact ho
   |some x=>unfold okDs at ho;simp only[Bool.and_eq_true]at ho;exact ho.2
  unfold putL;rw[putL_hit ds (a.put x (ys k)) ys (k+1) i t h' ho' (by rw[size_put];exact hs),show k+1+i=k+(i+1) by omega]
theorem putL_self:∀(ds:List (Option Tmp)) (a:Act) (k:Nat) (ys:Nat→Value),okDs ds=true→(∀i t,ds[i]?=some (some t)→ys (k+i)=a.eval (.tmp t))→putL a ds ys k=a
 |[],a,k,ys,_,h=>rfl
 |x::ds,a,k,ys,ho,h=>by
  have ho':okDs ds=true:=by
   cases x with
   |none=>exact ho
   |some x=>unfold okDs at ho;simp only[Bool.and_eq_true]at ho;exact ho.2
  have e:a.put x (ys k)=a:=by
   cases x with
   |none=>rfl
   |some x=>
    have:=h 0 x (by simp);rw[Nat.add_zero]at this;rw[this,put_self]
  unfold putL;rw[e];exact putL_self ds a (k+1) ys ho' (fun i t hi=>by
   have:=h (i+1) t (by simpa using hi);rw[show k+(i+1)=k+1+i by omega]at this;exact this)
theorem region_base {id:Nat}{a:Act}{w:World}(h:∀base:Act,base=a→(Code.region id ops true).wp P Q base w):(Code.region id ops true).wp P Q a w:=h a rfl
def lastB (ops:Array Oper)(L:Nat):Bool:=match ops[L]? with
 |some oL=>(List.range ops.size).all fun j=>j==L ||oL.after.any fun e=>Region.binds .any e && e.on==j
 |none=>false
def acB (ops:Array Oper):Bool:=(List.range ops.size).all fun i=>match ops[i]? with
 |some o=>o.after.all fun e=>decide (e.on<i)
 |none=>true
def dstB (ops:Array Oper)(ds:List (Option Tmp)):Bool:=(List.range ops.size).all fun i=>match ops[i]? with
 |some o=>ds[i]?==some o.dst
 |none=>true
theorem wpOp_valW {i:Nat}{o:Oper}{v:Value}{a:Act}{w w':World}{K:Act→World→Prop}(hi:ops[i]?=some o)(hw:Region.wanted o (yielded ops a.tmps)=true)(hr:(execOp a.eval o).run P w=.ok (.value v) w')(h:K (a.put o.dst v) w'):wpOp P ops Q i K a w:=by
 unfold wpOp;simp only[hi,hw,if_true,Oper.wp,hr,Oper.upon];exact .inl h
end
end Go.Proofs.YtieknenhfeejiaaGreatDoor
namespace Go.Proofs.YtieknenhfeejiaaGreatDoor
open _root_.Go.Proofs.Tryz
open Go.RowKit
def dset (d:Nat→Bool)(i:Nat):Nat→Bool:=fun j=>if j=i then true else d j
section
variable {P:Program} {ops:Array Oper} {Q:Exit→Act→World→Prop} {md:Region.Mode}
theorem dset_listed (listed:Array Bool)(i:Nat)(hi:i<listed.size):(fun j=>(listed.setIfInBounds i true).getD j true)=dset (fun j=>listed.getD j true) i:=by
 funext j
 unfold dset;by_cases h:j=i
 ·subst h;simp[hi]
 ·rw[getD_set_ne true (Ne.symm h),if_neg h]
def sinkL (ops:Array Oper)(L:Nat):Bool:=decide (L+1=ops.size) && (List.range L).all fun j=>(List.range ops.size).any fun k=>decide (j<k) && (match ops[k]? with|some o=>o.after.any fun e=>Region.binds .any e && e.on==j|none=>false)
theorem wpAny_trk (L:Nat)(oL:Oper)(hoL:ops[L]?=some oL)(hLz:L+1=ops.size)(hLall:∀j,j<L→∃k ok,j<k∧ops[k]?=some ok∧∃e∈ok.after,Region.binds md e=true∧e.on=j)
  (F:(Nat→Value)→Act)(I:(Nat→Bool)→(Nat→Value)→World→Prop)
  (hac:∀(i:Nat) (o:Oper),ops[i]?=some o→∀e∈o.after,e.on<i)
  (hstep:∀(i:Nat) (o:Oper),ops[i]?=some o→i≠L→∀d xs w,d i=false→I d xs w→(∀e∈o.after,Region.binds md e=true→d e.on=true)→
   wpOp P ops Q i (fun a' w'=>∃v,a'=F (rupd xs i v)∧I (dset d i) (rupd xs i v) w') (F xs) w)
  (hlast:∀d xs w,I d xs w→(∀j,j<ops.size→j≠L→d j=true)→wpOp P ops Q L (fun a' w'=>Q .normal a' w') (F xs) w) :
  ∀fuel listed xs w,listed.size=ops.size→listed.toList.count false≤fuel→I (fun j=>listed.getD j true) xs w→listed.getD L true=false→(∀j oj,ops[j]?=some oj→listed.getD j true=true→∀e∈oj.after,Region.binds md e=true→listed.getD e.on true=true)→wpAny P md ops Q fuel listed (F xs) w:=by
 have hLs:L<ops.size:=(Array.getElem?_eq_some_iff.1 hoL).1;intro fuel;induction fuel with
 |zero=>
  intro listed xs w hs hc hI hLf hcl;exfalso;have hlt:L<listed.size:=(by omega);have:false∈listed.toList:=by
   simp[hlt]at hLf;rw[←hLf];exact List.getElem_mem (by simpa using hlt)
  have:=List.count_pos_iff.2 this;omega
 |succ fuel ih=>
  intro listed xs w hs hc hI hLf hcl;refine⟨fun hr=>?_,fun i hi=>?_⟩
  ·exfalso
   have:=ready_some hac listed hs hr L hLs;rw[this]at hLf;cases hLf
  obtain⟨h0,o,ho,hall⟩:=mem_ready.1 hi;have hio:i<ops.size:=(Array.getElem?_eq_some_iff.1 ho).1;have hil:i<listed.size:=(by omega);have hdep:∀e∈o.after,Region.binds md e=true→e.on<ops.size∧listed.getD e.on true=true:=fun e he hb=>by
   have h1:=hall e he hb;rcases Nat.lt_or_ge e.on listed.size with h|h
   ·simp[h]at h1 ⊢
    exact⟨by omega,h1⟩
   ·simp[Array.getElem?_eq_none h]at h1
  by_cases hiL:i=L
  ·subst hiL
   obtain rfl:o=oL:=Option.some.inj (ho.symm.trans hoL);have hall':∀m j,i-j=m→j<i→listed.getD j true=true:=by
    intro m;induction m using Nat.strongRecOn with
    |_ m ihm=>
     intro j hm hj;obtain⟨k,ok,hjk,hok,e,he,hb,rfl⟩:=hLall j hj;have hks:k<ops.size:=(Array.getElem?_eq_some_iff.1 hok).1;by_cases hki:k=i
     ·subst hki
      obtain rfl:ok=o:=Option.some.inj (hok.symm.trans ho);exact(hdep e he hb).2
     ·exact hcl k ok hok (ihm (i-k) (by omega) k rfl (by omega)) e he hb
   refine wpOp_mono ?_ (hlast _ xs w hI fun j hj hji=>hall' _ j rfl (by omega))
   ·intro a' w' hq
    refine wpAny_done (ready_nil _ fun j hj=>?_) hq fuel;by_cases hji:j=i
    ·subst hji;simp[hil]
    ·rw[getD_set_ne true (Ne.symm hji)]
     exact hall' _ j rfl (by omega)
  refine wpOp_mono ?_ (hstep i o ho hiL _ xs w (by simpa[hil] using h0) hI fun e he hb=>(hdep e he hb).2);rintro a' w' ⟨v,rfl,hI'⟩;rw[←dset_listed listed i hil]at hI';refine ih _ _ _ (by simp[hs]) ?_ hI' (by rw[getD_set_ne true hiL];exact hLf) ?_
  rotate_left
  ·intro j oj hoj hjl e he hb
   have hmon:∀m,listed.getD m true=true→(listed.setIfInBounds i true).getD m true=true:=fun m hm=>by
    by_cases hmi:m=i
    ·subst hmi;simp[hil]
    ·rw[getD_set_ne true (Ne.symm hmi)];exact hm
   by_cases hji:j=i
   ·subst hji
    obtain rfl:oj=o:=Option.some.inj (hoj.symm.trans ho);exact hmon _ (hdep e he hb).2
   ·rw[getD_set_ne true (Ne.symm hji)]at hjl
    exact hmon _ (hcl j oj hoj hjl e he hb)
  have hlf:listed[i]=false:=(by simpa[hil] using h0);rw[Array.toList_setIfInBounds,List.count_set (by simpa using hil)];simp[hlf];have h0p:false∈listed.toList:=(by rw[←hlf];exact List.getElem_mem (by simpa using hil));have:=List.count_pos_iff.2 h0p;have e:Array.count false listed=listed.toList.count false:=by simp
  try rw[e]
  omega
def Phs (Pre Mid:World→Prop)(Post:Value→World→Prop):Bool→Bool→Value→World→Prop
 |false,false,_,w=>Pre w
 |true,false,_,w=>Mid w
 |true,true,v,w=>Post v w
 |false,true,_,_=>False
def RunOk (P:Program)(ops:Array Oper)(a:Act)(o:Oper)(w:World)(v:Value)(w':World):Prop:=
 Region.wanted o (yielded ops a.tmps)=true∧(execOp a.eval o).run P w=.ok (.value v) w'
def onB (ops:Array Oper)(b a:Nat):Bool:=match ops[b]? with
 |some o=>o.after.any fun e=>Region.binds .any e && e.on==a
 |none=>false
theorem wp_region_app {id:Nat}{base:Act}{w:World}(hm:P.follows .mixedOrders=true)(a b L:Nat)(ds:List (Option Tmp))(hL:sinkL ops L=true)(hac:acB ops=true)(hds:okDs ds=true)(hdst:dstB ops ds=true)
  (hab:onB ops b a=true)(haL:a≠L)(hbL:b≠L)(hne:a≠b)(hbn:b<ops.size)(han:a<ops.size)
  (vals:List Value)(Pre Mid Kz:World→Prop)(Post:Value→World→Prop)(k1:∀w,Pre w→Kz w)(k2:∀w,Mid w→Kz w)(k3:∀v w,Post v w→Kz w)(h0:Pre w.drew)
  (hread:∀i o,ops[i]?=some o→i≠a→i≠b→i≠L→∀xs w,Kz w→(∀e∈o.after,Region.binds .any e=true→e.on≠b→xs e.on=vals.getD e.on undef)→RunOk P ops (putL base ds xs 0) o w (vals.getD i undef) w)
  (ha:∀o,ops[a]?=some o→∀xs w,Pre w→(∀e∈o.after,Region.binds .any e=true→e.on≠b→xs e.on=vals.getD e.on undef)→∃w',RunOk P ops (putL base ds xs 0) o w (vals.getD a undef) w'∧Mid w')
  (hb:∀o,ops[b]?=some o→∀xs w,Mid w→(∀e∈o.after,Region.binds .any e=true→e.on≠b→xs e.on=vals.getD e.on undef)→∃v w',RunOk P ops (putL base ds xs 0) o w v w'∧Post v w')
  (hlast:∀xs w,Post (xs b) w→(∀j,j<ops.size→j≠L→j≠b→xs j=vals.getD j undef)→wpOp P ops Q L (fun a' w'=>Q .normal a' w') (putL base ds xs 0) w):(Code.region id ops true).wp P Q base w:=by
 unfold sinkL at hL;rw[Bool.and_eq_true,decide_eq_true_eq]at hL;obtain⟨hLz,hL2⟩:=hL;obtain⟨oL,hoL⟩:∃oL,ops[L]?=some oL:=⟨ops[L]'(by omega),by simp⟩
 have hall:∀j,j<L→∃k ok,j<k∧ops[k]?=some ok∧∃e∈ok.after,Region.binds .any e=true∧e.on=j:=fun j hj=>by
  have h1:=List.all_eq_true.1 hL2 j (List.mem_range.2 hj);obtain⟨k,hk,h2⟩:=List.any_eq_true.1 h1;rw[Bool.and_eq_true,decide_eq_true_eq]at h2;obtain⟨hjk,h3⟩:=h2;cases hok:ops[k]? with
  |none=>rw[hok]at h3;cases h3
  |some ok=>
   rw[hok]at h3;obtain⟨e,he,hb⟩:=Array.any_eq_true'.1 h3;simp only[Bool.and_eq_true,beq_iff_eq]at hb;exact⟨k,ok,hjk,hok,e,he,hb.1,hb.2⟩
 have ac:∀(i:Nat) (o:Oper),ops[i]?=some o→∀e∈o.after,e.on<i:=fun i o ho e he=>by
  have:=List.all_eq_true.1 hac i (List.mem_range.2 (Array.getElem?_eq_some_iff.1 ho).1);simp only[ho]at this;exact of_decide_eq_true (Array.all_eq_true_iff_forall_mem.1 this e he)
 have dst:∀(i:Nat) (o:Oper),ops[i]?=some o→ds[i]?=some o.dst:=fun i o ho=>by
  have:=List.all_eq_true.1 hdst i (List.mem_range.2 (Array.getElem?_eq_some_iff.1 ho).1);simp only[ho]at this;exact beq_iff_eq.1 this
 have hba:∀o,ops[b]?=some o→∃e∈o.after,Region.binds .any e=true∧e.on=a:=fun o ho=>by
  unfold onB at hab;rw[ho]at hab;obtain⟨e,he,hb⟩:=Array.any_eq_true'.1 hab;simp only[Bool.and_eq_true,beq_iff_eq]at hb;exact⟨e,he,hb.1,hb.2⟩
 let I:(Nat→Bool)→(Nat→Value)→World→Prop:=fun d xs w=>(∀j,j<ops.size→d j=true→j≠b→xs j=vals.getD j undef)∧Phs Pre Mid Post (d a) (d b) (xs b) w
 have kz:∀d xs w,I d xs w→Kz w:=fun d xs w h=>by
  have h2:=h.2
  revert h2
  cases d a<;>cases d b<;>intro h2
  ·exact k1 _ h2
  ·exact h2.elim
  ·exact k2 _ h2
  ·exact k3 _ _ h2
 have upd:∀(d:Nat→Bool) (xs:Nat→Value) (i:Nat) (v:Value),(∀j,j<ops.size→d j=true→j≠b→xs j=vals.getD j undef)→(i≠b→v=vals.getD i undef)→(∀j,j<ops.size→dset d i j=true→j≠b→rupd xs i v j=vals.getD j undef):=fun d xs i v h hv j hj hd hjb=>by
  by_cases hji:j=i
  ·subst hji;rw[rupd_same];exact hv hjb
  ·rw[rupd_ne _ _ hji]
   unfold dset at hd;rw[if_neg hji]at hd;exact h j hj hd hjb
 have run:∀ {i:Nat} {o:Oper} {xs:Nat→Value} {w w':World} {v:Value} {K:Act→World→Prop},ops[i]?=some o→RunOk P ops (putL base ds xs 0) o w v w'→K (putL base ds (rupd xs i v) 0) w'→wpOp P ops Q i K (putL base ds xs 0) w:=fun {i o xs w w' v K} ho hr hK=>by
  refine wpOp_valW ho hr.1 hr.2 ?_;rw[putL_put ds base xs 0 i o.dst v (dst i o ho) hds,Nat.zero_add];exact hK
 have e:=putL_self ds base 0 (fun i=>match ds[i]? with|some (some t)=>base.eval (.tmp t)|_=>undef) hds (fun i t hi=>by simp[hi]);rw[←e];refine wp_region_any hm (wpAny_trk L oL hoL hLz hall (fun ys=>putL base ds ys 0) I ac (fun i o ho hne xs=>?_) (fun d xs w hI hd=>?_) _ _ _ _ (by simp) (by simp) ⟨fun j hj hd=>by simp[hj]at hd,?_⟩ (by have:=(Array.getElem?_eq_some_iff.1 hoL).1;simp[this]) (fun j oj hoj hjl=>by have:=(Array.getElem?_eq_some_iff.1 hoj).1;simp[this]at hjl))
 ·intro ys w hdi hI hdep
  have hio:i<ops.size:=(Array.getElem?_eq_some_iff.1 ho).1;have hdv:∀e∈o.after,Region.binds .any e=true→e.on≠b→ys e.on=vals.getD e.on undef:=fun e he hb' hne'=>hI.1 e.on (by have:=ac i o ho e he;omega) (hdep e he hb') hne'
  by_cases hia:i=a
  ·subst hia
   have hPre:Pre w:=by
    have h2:=hI.2;rw[hdi]at h2
    revert h2
    cases xs b<;>intro h2
    ·exact h2
    ·exact h2.elim
   obtain⟨w',hr,hM⟩:=ha o ho ys w hPre hdv;refine run ho hr ⟨_,rfl,upd _ _ _ _ hI.1 (fun _=>rfl),?_⟩;have hb0:xs b=false:=by
    have h2:=hI.2;rw[hdi]at h2;cases hxb:xs b with
    |false=>rfl
    |true=>rw[hxb]at h2;exact h2.elim
   have e1:dset xs i i=true:=(by unfold dset;rw[if_pos rfl]);have e2:dset xs i b=false:=(by unfold dset;rw[if_neg (Ne.symm hne)];exact hb0);rw[e1,e2];exact hM
  ·by_cases hib:i=b
   ·subst hib
    obtain⟨e',he',hb',hon⟩:=hba o ho;have hda:xs a=true:=(by rw[←hon];exact hdep e' he' hb');have hMid:Mid w:=by
     have h2:=hI.2;rw[hda,hdi]at h2;exact h2
    obtain⟨v,w',hr,hP⟩:=hb o ho ys w hMid hdv;refine run ho hr ⟨_,rfl,upd _ _ _ _ hI.1 (fun h=>absurd rfl h),?_⟩;have e1:dset xs i a=true:=(by unfold dset;rw[if_neg hne];exact hda);have e2:dset xs i i=true:=(by unfold dset;rw[if_pos rfl]);rw[e1,e2,rupd_same];exact hP
   ·have hr:=hread i o ho hia hib hne ys w (kz _ _ _ hI) hdv
    refine run ho hr ⟨_,rfl,upd _ _ _ _ hI.1 (fun _=>rfl),?_⟩;have e1:dset xs i a=xs a:=(by unfold dset;rw[if_neg (Ne.symm hia)]);have e2:dset xs i b=xs b:=(by unfold dset;rw[if_neg (Ne.symm hib)]);rw[e1,e2,rupd_ne _ _ (Ne.symm hib)];exact hI.2
 ·refine hlast xs w ?_ (fun j hj h1 h2=>hI.1 j hj (hd j hj h1) h2)
  have h2:=hI.2;rw[hd a han haL,hd b hbn hbL]at h2;exact h2
 ·have e1:(Array.replicate ops.size false).getD a true=false:=by simp[han]
  have e2:(Array.replicate ops.size false).getD b true=false:=(by simp[hbn]);simp only[e1,e2];exact h0
end
end Go.Proofs.YtieknenhfeejiaaGreatDoor
