/- Plain law: runes written as a text are read back one by one. Plain law: what .. -/
import Derived.Test.YtieknenhfeejiaaGreatDoorUMa
set_option linter.unusedVariables false
set_option linter.unusedSimpArgs false
namespace Go.Proofs.YtieknenhfeejiaaGreatDoor.U
open _root_.Go.Proofs.Tryz
theorem get_list (s:ByteArray)(k:Nat):s.get! k=(s.data.toList[k]?).getD 0:=by
 by_cases h:k<s.size
 ·rw[data_get s k h];rfl
 ·rw[List.getElem?_eq_none (by rw[←Lib.size_eq];omega)]
  simp only[ByteArray.get!,Array.getElem!_eq_getD,Array.getD];rw[dif_neg (show ¬ k<s.data.size from h)];rfl
theorem at_list (s:ByteArray)(k:Nat):at' s k=((s.data.toList[k]?).getD 0).toNat:=by unfold at';rw[get_list]
def runesFrom (s:ByteArray)(p:Nat):List Nat:=
 if _h:p<s.size then(if bad s p then [] else run s p::runesFrom s (p+(Utf8.decode s p).2)) else []
termination_by s.size-p
decreasing_by have:=dec_pos s p;omega
theorem runes_step (s:ByteArray)(p:Nat)(h:p<s.size)(hb:bad s p=false):runesFrom s p=run s p::runesFrom s (p+(Utf8.decode s p).2):=by rw[runesFrom,dif_pos h,if_neg (by simp[hb])]
theorem runes_end (s:ByteArray)(p:Nat)(h:¬ p<s.size):runesFrom s p=[]:=by rw[runesFrom,dif_neg h]
end Go.Proofs.YtieknenhfeejiaaGreatDoor.U
namespace Go.Proofs.YtieknenhfeejiaaGreatDoor.U
open Go
def encs (l:List Int):List UInt8:=l.flatMap fun r=>(Utf8.encode r).toList
def allRunes (l:List Int):Bool:=l.all fun r=>Utf8.valid r
theorem encs_nil:encs []=[]:=rfl
theorem encs_cons (r:Int)(l:List Int):encs (r::l)=(Utf8.encode r).toList++encs l:=List.flatMap_cons
theorem encs_app (a b:List Int):encs (a++b)=encs a++encs b:=List.flatMap_append
theorem encs_one (r:Int):encs [r]=(Utf8.encode r).toList:=by rw[encs_cons,encs_nil,List.append_nil]
theorem valid_nat (r:Int)(h:Utf8.valid r=true):∃n:Nat,r=n∧n≤1114111:=by
 have:=(valid_iff r).1 h;exact⟨r.toNat,by omega,by omega⟩
theorem enc_len_eq (n:Nat)(hv:Utf8.valid (n:Int)=true):(Utf8.encode (n:Int)).toList.length=if n<128 then 1 else if n<2048 then 2 else if n<65536 then 3 else 4:=by
 rw[←enc_size n hv,ByteArray.toList_eq,Lib.size_eq]
theorem at_mk (l:List UInt8)(k:Nat):at' ⟨l.toArray⟩ k=((l[k]?).getD 0).toNat:=by rw[at_list]
theorem mk_size (l:List UInt8):(⟨l.toArray⟩:ByteArray).size=l.length:=by rw[Lib.size_eq]
theorem dec_at (pre post:List UInt8)(n:Nat)(hv:Utf8.valid (n:Int)=true) :
  Utf8.decode ⟨(pre++((Utf8.encode (n:Int)).toList++post)).toArray⟩ pre.length=(n,(Utf8.encode (n:Int)).toList.length):=by
 have hb:=(valid_iff _).1 hv;have he:=enc_list n hv;have hl:=enc_len_eq n hv;have hat:∀k,k<(Utf8.encode (n:Int)).toList.length→at' ⟨(pre++((Utf8.encode (n:Int)).toList++post)).toArray⟩ (pre.length+k)=(((Utf8.encode (n:Int)).toList[k]?).getD 0).toNat:=by
  intro k hk;rw[at_mk,List.getElem?_append_right (by omega),Nat.add_sub_cancel_left,List.getElem?_append_left hk]
 have hz:(⟨(pre++((Utf8.encode (n:Int)).toList++post)).toArray⟩:ByteArray).size=pre.length+((Utf8.encode (n:Int)).toList.length+post.length):=by
  rw[mk_size,List.length_append,List.length_append]
 generalize (⟨(pre++((Utf8.encode (n:Int)).toList++post)).toArray⟩:ByteArray)=s at hat hz ⊢;rw[hl]at hat hz ⊢;rw[he]at hat;by_cases c1:n<128
 ·simp only[if_pos c1]at hat hz ⊢
  have b0:=hat 0 (by omega);simp only[List.getElem?_cons_zero,Option.getD_some,Nat.add_zero]at b0;rw[ofNat_toNat _ (by omega)]at b0;rw[dec1 s _ (by omega),b0]
 simp only[if_neg c1]at hat hz ⊢;by_cases c2:n<2048
 ·simp only[if_pos c2]at hat hz ⊢
  have b0:=hat 0 (by omega);have b1:=hat 1 (by omega);simp only[List.getElem?_cons_zero,List.getElem?_cons_succ,Option.getD_some,Nat.add_zero]at b0 b1;rw[ofNat_toNat _ (by omega)]at b0 b1;exact dec2 s _ n (by omega) (by omega) c2 b0 b1
 simp only[if_neg c2]at hat hz ⊢;by_cases c3:n<65536
 ·simp only[if_pos c3]at hat hz ⊢
  have b0:=hat 0 (by omega);have b1:=hat 1 (by omega);have b2:=hat 2 (by omega);simp only[List.getElem?_cons_zero,List.getElem?_cons_succ,Option.getD_some,Nat.add_zero]at b0 b1 b2;rw[ofNat_toNat _ (by omega)]at b0 b1 b2;exact dec3 s _ n (by omega) (by omega) c3 hv b0 b1 b2
 simp only[if_neg c3]at hat hz ⊢;have b0:=hat 0 (by omega);have b1:=hat 1 (by omega);have b2:=hat 2 (by omega);have b3:=hat 3 (by omega);simp only[List.getElem?_cons_zero,List.getElem?_cons_succ,Option.getD_some,Nat.add_zero]at b0 b1 b2 b3;rw[ofNat_toNat _ (by omega)]at b0 b1 b2 b3;exact dec4 s _ n (by omega) (by omega) hv b0 b1 b2 b3
theorem good_at (pre post:List UInt8)(n:Nat)(hv:Utf8.valid (n:Int)=true):bad ⟨(pre++((Utf8.encode (n:Int)).toList++post)).toArray⟩ pre.length=false:=by
 unfold bad;rw[dec_at pre post n hv,bf];intro h;simp only[Prod.mk.injEq]at h;obtain⟨rfl,h2⟩:=h;have:=enc_len_eq 65533 hv;rw[if_neg (by decide),if_neg (by decide),if_pos (by decide)]at this;omega
theorem encs_from (pre:List UInt8):∀l:List Int,allRunes l=true→vfrom ⟨(pre++encs l).toArray⟩ pre.length=true∧(runesFrom ⟨(pre++encs l).toArray⟩ pre.length).map (fun (n:Nat)=>(n:Int))=l:=by
 intro l;induction l generalizing pre with
 |nil=>intro _;rw[encs_nil,List.append_nil];exact⟨vfrom_end _ _ (by rw[mk_size];omega),by rw[runes_end _ _ (by rw[mk_size];omega)];rfl⟩
 |cons r l ih=>
  intro h;unfold allRunes at h;rw[List.all_cons,Bool.and_eq_true]at h;obtain⟨n,rfl,_⟩:=valid_nat r h.1;have hd:=dec_at pre (encs l) n h.1;have hg:=good_at pre (encs l) n h.1;have hl:=enc_len_eq n h.1
  have h1:1≤(Utf8.encode (n:Int)).toList.length:=by rw[hl];repeat' split
                                                    all_goals omega
  have hlt:pre.length<(⟨(pre++((Utf8.encode (n:Int)).toList++encs l)).toArray⟩:ByteArray).size:=(by rw[mk_size,List.length_append,List.length_append];omega);have:=ih (pre++(Utf8.encode (n:Int)).toList) h.2;rw[List.append_assoc,List.length_append]at this;rw[encs_cons]
  constructor
  ·rw[vfrom_step _ _ hlt hg,hd];exact this.1
  ·rw[runes_step _ _ hlt hg,hd,List.map_cons,this.2]
   unfold run;rw[hd]
theorem encs_valid (l:List Int)(h:allRunes l=true):valid ⟨(encs l).toArray⟩=true:=(encs_from [] l h).1
end Go.Proofs.YtieknenhfeejiaaGreatDoor.U
namespace Go.Proofs.YtieknenhfeejiaaGreatDoor.U
open Go
theorem at_pre (pre w r:List UInt8)(k:Nat)(hk:k<w.length):at' ⟨(pre++(w++r)).toArray⟩ (pre.length+k)=((w[k]?).getD 0).toNat:=by
 rw[at_mk,List.getElem?_append_right (by omega),Nat.add_sub_cancel_left,List.getElem?_append_left hk]
theorem pre_size (pre w r:List UInt8):(⟨(pre++(w++r)).toArray⟩:ByteArray).size=pre.length+(w.length+r.length):=by
 rw[mk_size,List.length_append,List.length_append]
/-! ### runes and bytes below 128 -/
def bytesR (l:List UInt8):List Int:=l.map fun b=>(b.toNat:Int)
theorem encs_bytes:∀l:List UInt8,(∀b∈l,b.toNat<128)→encs (bytesR l)=l∧allRunes (bytesR l)=true
 |[],_=>⟨rfl,rfl⟩
 |c::l,h=>by
  have ih:=encs_bytes l fun b hb=>h b (by simp[hb])
  have hc:=h c (by simp);unfold bytesR at *;rw[List.map_cons,encs_cons,ih.1,enc_low _ hc,u8_of];refine⟨rfl,?_⟩;unfold allRunes at *;rw[List.all_cons,ih.2,(valid_iff _).2 (by omega)];rfl
def wrR (f:UInt8→List UInt8)(r:Int):List Int:=if r<128 then bytesR (f (UInt8.ofNat r.toNat)) else [r]
theorem allRunes_app (a b:List Int):allRunes (a++b)=(allRunes a && allRunes b):=List.all_append
theorem flat_encs (f:UInt8→List UInt8)(hf:∀c:UInt8,128≤c.toNat→f c=[c])(hl:∀c:UInt8,c.toNat<128→∀b∈f c,b.toNat<128) :
  ∀l:List Int,allRunes l=true→(encs l).flatMap f=encs (l.flatMap (wrR f))∧allRunes (l.flatMap (wrR f))=true
 |[],_=>⟨rfl,rfl⟩
 |r::l,h=>by
  unfold allRunes at h;rw[List.all_cons,Bool.and_eq_true]at h;have ih:=flat_encs f hf hl l h.2;obtain⟨n,rfl,_⟩:=valid_nat r h.1;rw[encs_cons,List.flatMap_append,ih.1,List.flatMap_cons,encs_app,allRunes_app,ih.2,Bool.and_true];by_cases c1:n<128
  ·have hw:wrR f (n:Int)=bytesR (f (UInt8.ofNat n)):=by unfold wrR;rw[if_pos (by omega),Int.toNat_natCast]
   have hb:=encs_bytes (f (UInt8.ofNat n)) (hl _ (by rw[ofNat_toNat _ (by omega)];exact c1));rw[hw,enc_low n c1,hb.1];exact⟨by simp,hb.2⟩
  ·have hw:wrR f (n:Int)=[(n:Int)]:=by unfold wrR;rw[if_neg (by omega)]
   rw[hw,encs_one,flat_self f hf _ (enc_high n h.1 (by omega))];exact⟨rfl,by unfold allRunes;rw[List.all_cons,h.1];rfl⟩
theorem quoted_valid (f:UInt8→List UInt8)(hf:∀c:UInt8,128≤c.toNat→f c=[c])(hl:∀c:UInt8,c.toNat<128→∀b∈f c,b.toNat<128)
  (l:List Int)(h:allRunes l=true):valid ⟨(34::(encs l).flatMap f++[34]).toArray⟩=true:=by
 have hq:=encs_bytes [34] (by decide);obtain⟨h1,h2⟩:=flat_encs f hf hl l h;have e:(34::(encs l).flatMap f++[34]:List UInt8)=encs (bytesR [34]++(l.flatMap (wrR f)++bytesR [34])):=by
  rw[encs_app,encs_app,hq.1,←h1];rfl
 rw[e];exact encs_valid _ (by rw[allRunes_app,allRunes_app,hq.2,h2];rfl)
/-! ### Quote -/
theorem wrQ_bytes:∀c:Nat,c<256→(wrQ (UInt8.ofNat c)).all (fun b=>32≤b.toNat && b.toNat !=127 && (128≤c ||b.toNat<128))=true:=by decide +kernel
theorem wrQ_low (c:UInt8)(h:c.toNat<128):∀b∈wrQ c,b.toNat<128:=by
 intro b hb;have h1:=wrQ_bytes c.toNat c.toNat_lt;rw[u8_of]at h1;have:=List.all_eq_true.1 h1 b hb;simp at this;omega
theorem hex2:∀c:Nat,c<256→numF 16 [UInt8.ofNat (hxN (c/16)),UInt8.ofNat (hxN (c%16))] 0=some c:=by decide +kernel
theorem letQ_all:∀k:Nat,k<7→isLetter (letQ.getD k 0).toNat=true∧plainB (letQ.getD k 0).toNat=k+7∧(letQ.getD k 0).toNat≠10:=by decide +kernel
theorem hxN_ok:∀k:Nat,k<16→hxN k<256∧hxN k≠34∧hxN k≠10∧hxN k≠92:=by decide +kernel
theorem unq_wrQ (c:UInt8)(r:List UInt8):unq 34 (wrQ c++r)=(unq 34 r).map (c :: ·):=by
 have hc:=c.toNat_lt;have e:=u8_of c;by_cases h1:c.toNat=34∨c.toNat=92
 ·have:=wrQ_back c.toNat hc h1
  rw[e]at this;rw[this,List.cons_append,unq_some 34 92 ([c]++r) rfl [c] 1 ?_]
  ·rfl
  ·rw[List.singleton_append,escL]
   rw[if_neg (by rcases h1 with h|h<;>rw[h]<;>decide),if_pos (by omega)]
 by_cases h2:7≤c.toNat∧c.toNat≤13
 ·have:=wrQ_let c.toNat hc h2
  rw[e]at this;obtain⟨l1,l2,_⟩:=letQ_all (c.toNat-7) (by omega);rw[this];generalize letQ.getD (c.toNat-7) 0=x at l1 l2 this;rw[List.cons_append,unq_some 34 92 ([x]++r) rfl [c] 1 ?_]
  ·rfl
  ·rw[List.singleton_append,escL,if_pos l1,l2,show c.toNat-7+7=c.toNat by omega]
   unfold byteOf;rw[e]
 by_cases h3:c.toNat<32∨c.toNat=127
 ·have:=wrQ_hex c.toNat hc ⟨h3,h2⟩
  rw[e]at this;have hh:=hex2 c.toNat hc;rw[this];generalize UInt8.ofNat (hxN (c.toNat/16))=x at hh this;generalize UInt8.ofNat (hxN (c.toNat%16))=y at hh this;rw[List.cons_append,unq_some 34 92 ([120,x,y]++r) rfl [c] 3 ?_]
  ·rfl
  ·show escL 34 (120::x::y::r)=_
   rw[escL,if_neg (by decide),if_neg (by decide),if_pos (by decide)];unfold numL;rw[if_neg (by simp)];show (numF 16 [x,y] 0).map _=_
   rw[hh,Option.map_some];unfold byteOf;rw[e]
 ·have:=wrQ_self c.toNat hc (by omega)
  rw[e]at this;rw[this,List.singleton_append,unq_plain 34 c r (by omega)]
theorem unq_flat:∀l:List UInt8,unq 34 (l.flatMap wrQ)=some l
 |[]=>by rw[List.flatMap_nil,unq_nil]
 |c::l=>by rw[List.flatMap_cons,unq_wrQ,unq_flat l];rfl
theorem lit_wrQ (pre r:List UInt8)(c:UInt8):lit ⟨(pre++(wrQ c++r)).toArray⟩ 34 pre.length=lit ⟨(pre++(wrQ c++r)).toArray⟩ 34 (pre.length+(wrQ c).length):=by
 have hc:=c.toNat_lt;have e:=u8_of c;have hat:=at_pre pre (wrQ c) r;have hsz:=pre_size pre (wrQ c) r;generalize (⟨(pre++(wrQ c++r)).toArray⟩:ByteArray)=s at hat hsz ⊢;by_cases h1:c.toNat=34∨c.toNat=92
 ·have hw:=wrQ_back c.toNat hc h1
  rw[e]at hw;rw[hw]at hat hsz ⊢;have a0:=hat 0 (by simp);have a1:=hat 1 (by simp);simp only[List.getElem?_cons_zero,List.getElem?_cons_succ,Option.getD_some,Nat.add_zero,List.length_cons,List.length_nil]at a0 a1 hsz ⊢;have a0':at' s pre.length=92:=a0;exact lit_esc s 34 _ (by omega) (by omega) (by decide) a0' (by omega)
 by_cases h2:7≤c.toNat∧c.toNat≤13
 ·have hw:=wrQ_let c.toNat hc h2
  rw[e]at hw;obtain⟨_,_,l3⟩:=letQ_all (c.toNat-7) (by omega);rw[hw]at hat hsz ⊢;generalize letQ.getD (c.toNat-7) 0=x at l3 hat hsz ⊢;have a0:=hat 0 (by simp);have a1:=hat 1 (by simp);simp only[List.getElem?_cons_zero,List.getElem?_cons_succ,Option.getD_some,Nat.add_zero,List.length_cons,List.length_nil]at a0 a1 hsz ⊢;have a0':at' s pre.length=92:=a0;exact lit_esc s 34 _ (by omega) (by omega) (by decide) a0' (by omega)
 by_cases h3:c.toNat<32∨c.toNat=127
 ·have hw:=wrQ_hex c.toNat hc ⟨h3,h2⟩
  rw[e]at hw;have x1:=hxN_ok (c.toNat/16) (by omega);have x2:=hxN_ok (c.toNat%16) (by omega);rw[hw]at hat hsz ⊢;have a0:=hat 0 (by simp);have a1:=hat 1 (by simp);have a2:=hat 2 (by simp);have a3:=hat 3 (by simp);simp only[List.getElem?_cons_zero,List.getElem?_cons_succ,Option.getD_some,Nat.add_zero,List.length_cons,List.length_nil]at a0 a1 a2 a3 hsz ⊢;rw[ofNat_toNat _ x1.1]at a2;rw[ofNat_toNat _ x2.1]at a3;have a0':at' s pre.length=92:=a0;have a1':at' s (pre.length+1)=120:=a1
  rw[lit_esc s 34 _ (by omega) (by omega) (by decide) a0' (by omega),lit_step s 34 (pre.length+2) (by omega) (by omega) (by decide) (by omega) (by omega),
   lit_step s 34 (pre.length+3) (by omega) (by omega) (by decide) (by omega) (by omega)]
 ·have hw:=wrQ_self c.toNat hc (by omega)
  rw[e]at hw;rw[hw]at hat hsz ⊢;have a0:=hat 0 (by simp);simp only[List.getElem?_cons_zero,Option.getD_some,Nat.add_zero,List.length_cons,List.length_nil]at a0 hsz ⊢;exact lit_step s 34 _ (by omega) (by omega) (by decide) (by omega) (by omega)
theorem lit_flat:∀(l pre r:List UInt8),lit ⟨(pre++(l.flatMap wrQ++34::r)).toArray⟩ 34 pre.length=some (pre.length+(l.flatMap wrQ).length+1)
 |[],pre,r=>by
  have hat:=at_pre pre [34] r 0 (by simp);have hsz:=pre_size pre [34] r;rw[List.flatMap_nil,List.nil_append];exact lit_hit _ _ _ (by rw[List.singleton_append]at hsz;rw[hsz];simp;omega) hat
 |c::l,pre,r=>by
  rw[List.flatMap_cons,List.append_assoc,lit_wrQ];have:=lit_flat l (pre++wrQ c) r;rw[List.length_append,List.append_assoc]at this;rw[this,List.length_append];congr 1;omega
def quo (l:List Int):List UInt8:=34::(encs l).flatMap wrQ++[34]
theorem quo_len (l:List Int):(quo l).length=((encs l).flatMap wrQ).length+2:=by unfold quo;simp
theorem quo_valid (l:List Int)(h:allRunes l=true):valid ⟨(quo l).toArray⟩=true:=quoted_valid wrQ wrQ_high wrQ_low l h
theorem quo_first (l:List Int):at' ⟨(quo l).toArray⟩ 0=34:=by rw[at_mk];rfl
theorem quo_literal (l:List Int)(head rest:List UInt8):literal ⟨(head++(quo l++rest)).toArray⟩ (head.length:Int)=(((head.length+(quo l).length:Nat):Int),0):=by
 have e:head++(quo l++rest)=(head++[34])++((encs l).flatMap wrQ++34::rest):=(by unfold quo;simp);have h1:=lit_flat (encs l) (head++[34]) rest;have hz:=pre_size head (quo l) rest;have ha:=at_pre head (quo l) rest 0 (by unfold quo;simp);have hq:((quo l)[0]?.getD 0).toNat=34:=rfl;rw[hq,Nat.add_zero]at ha;have hl:=quo_len l;rw[literal_in _ head.length (by rw[hz];omega) (.inl ha),ha,e,show head.length+1=(head++[34]).length by simp,h1];unfold litR;rw[List.length_append,hl];simp;omega
theorem quo_unquote (l:List Int)(h:allRunes l=true):unquote ⟨(quo l).toArray⟩=(encs l,0):=by
 have h1:=quo_literal l [] [];rw[List.append_nil,List.nil_append,List.length_nil,Nat.zero_add]at h1;have hz:=mk_size (quo l);unfold unquote;rw[if_neg (by rw[quo_valid l h];decide),if_neg (by rw[hz];exact fun hn=>hn h1),quo_first,if_neg (by decide)];have e:((⟨(quo l).toArray⟩:ByteArray).data.toList.drop 1).take ((⟨(quo l).toArray⟩:ByteArray).size-2)=(encs l).flatMap wrQ:=by
  rw[hz,quo_len,Nat.add_sub_cancel];show (((encs l).flatMap wrQ++[34]).take _)=_
  rw[List.take_append_of_le_length (Nat.le_refl _),List.take_length]
 rw[e,unq_flat];show (if valid ⟨(encs l).toArray⟩ then(encs l,0) else([],13))=_
 rw[encs_valid l h];rfl
end Go.Proofs.YtieknenhfeejiaaGreatDoor.U
namespace Go.Proofs.YtieknenhfeejiaaGreatDoor.U
open Go
theorem drop_at (s:ByteArray)(p:Nat)(h:p<s.size):s.data.toList.drop p=UInt8.ofNat (at' s p)::s.data.toList.drop (p+1):=by
 rw[at_eq s p h,u8_of];exact(List.getElem_cons_drop (h:=h)).symm
theorem encs_of (s:ByteArray):∀m p,s.size-p=m→vfrom s p=true→∃l,allRunes l=true∧encs l=s.data.toList.drop p:=by
 intro m;induction m using Nat.strongRecOn with
 |_ m ih=>
  intro p hm hv;by_cases hp:p<s.size
  ·by_cases hb:bad s p=true
   ·rw[vfrom_bad s p hp hb]at hv;exact absurd hv (by decide)
   ·have hb':bad s p=false:=by simpa using hb
    rw[vfrom_step s p hp hb']at hv;have h1:=(dec_pos s p).1;have h2:=dec_le s p hp;obtain⟨l,hl,he⟩:=ih (s.size-(p+(Utf8.decode s p).2)) (by omega) _ rfl hv;have gv:=good_valid s p hb';refine⟨(run s p:Int)::l,by unfold allRunes at hl ⊢;rw[List.all_cons,gv,hl];rfl,?_⟩;rw[encs_cons,he,enc_list _ gv];rcases good_cases s p hb' with ⟨c,d⟩|⟨c,d1,d2,b0,b1,w⟩|⟨c,d1,d2,_,b0,b1,b2,w⟩|⟨c,d1,_,b0,b1,b2,b3,w⟩
    ·have r:run s p=at' s p:=by unfold run;rw[d]
     rw[if_pos (by omega),d,drop_at s p hp,r];rfl
    ·rw[if_neg (by omega),if_pos d2,w,drop_at s p hp,drop_at s (p+1) c,b0,b1];rfl
    ·rw[if_neg (by omega),if_neg (by omega),if_pos d2,w,drop_at s p hp,drop_at s (p+1) (by omega),drop_at s (p+2) c,b0,b1,b2];rfl
    ·rw[if_neg (by omega),if_neg (by omega),if_neg (by omega),w,drop_at s p hp,drop_at s (p+1) (by omega),drop_at s (p+2) (by omega),drop_at s (p+3) c,b0,b1,b2,b3];rfl
  ·exact⟨[],rfl,by rw[encs_nil,List.drop_eq_nil_of_le];rw[←Lib.size_eq];omega⟩
theorem valid_encs {s:ByteArray}(h:valid s=true):∃l,allRunes l=true∧encs l=s.data.toList:=by
 obtain⟨l,a,b⟩:=encs_of s s.size 0 (by omega) h;exact⟨l,a,by rw[b,List.drop_zero]⟩
end Go.Proofs.YtieknenhfeejiaaGreatDoor.U
