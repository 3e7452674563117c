/- Plain law: the model's decoding of UTF-8, and the reference's way to say whic .. -/
import Derived.Test.YtieknenhfeejiaaGreatDoorRows
import Derived.WalkKit
import Derived.Lib.Strings
set_option maxRecDepth 100000
set_option linter.unusedVariables false
set_option linter.unusedSimpArgs false
namespace Go.Proofs.YtieknenhfeejiaaGreatDoor.U
open Go
def at' (s:ByteArray)(i:Nat):Nat:=(s.get! i).toNat
theorem at_lt (s:ByteArray)(i:Nat):at' s i<256:=(s.get! i).toNat_lt
theorem at_eq (s:ByteArray)(i:Nat)(h:i<s.size):at' s i=(s[i]'h).toNat:=by
 have:=get_at s i h;simp only[Nat.add_zero]at this;rw[at',this]
theorem decode_eq (s:ByteArray)(i:Nat):Utf8.decode s i =
  (if at' s i<128 then(at' s i,1)
   else if at' s i/32=6∧i+1<s.size∧at' s (i+1)/64=2 then
    (if 128≤(at' s i%32)*64+at' s (i+1)%64 then((at' s i%32)*64+at' s (i+1)%64,2) else(65533,1))
   else if at' s i/16=14∧(i+1<s.size∧at' s (i+1)/64=2)∧(i+2<s.size∧at' s (i+2)/64=2) then
    (if 2048≤(at' s i%16)*4096+(at' s (i+1)%64)*64+at' s (i+2)%64∧Utf8.valid (((at' s i%16)*4096+(at' s (i+1)%64)*64+at' s (i+2)%64:Nat):Int)=true
     then((at' s i%16)*4096+(at' s (i+1)%64)*64+at' s (i+2)%64,3) else(65533,1))
   else if at' s i/8=30∧(i+1<s.size∧at' s (i+1)/64=2)∧(i+2<s.size∧at' s (i+2)/64=2)∧(i+3<s.size∧at' s (i+3)/64=2) then
    (if 65536≤(at' s i%8)*262144+(at' s (i+1)%64)*4096+(at' s (i+2)%64)*64+at' s (i+3)%64∧Utf8.valid (((at' s i%8)*262144+(at' s (i+1)%64)*4096+(at' s (i+2)%64)*64+at' s (i+3)%64:Nat):Int)=true
     then((at' s i%8)*262144+(at' s (i+1)%64)*4096+(at' s (i+2)%64)*64+at' s (i+3)%64,4) else(65533,1))
   else(65533,1)):=by
 have e:∀k,(s.get! k).toNat=at' s k:=fun _=>rfl
 unfold Utf8.decode;simp only[e,Utf8.runeError,Nat.add_zero];simp only[Bool.and_eq_true,decide_eq_true_eq,beq_iff_eq,ge_iff_le,and_assoc]
def bad (s:ByteArray)(i:Nat):Bool:=Utf8.decode s i==(65533,1)
def run (s:ByteArray)(i:Nat):Nat:=(Utf8.decode s i).1
theorem valid_iff (n:Int):Utf8.valid n=true↔(0≤n∧n<55296)∨(57344≤n∧n≤1114111):=by
 simp[Utf8.valid]
theorem dec_pos (s:ByteArray)(i:Nat):1≤(Utf8.decode s i).2∧(Utf8.decode s i).2≤4:=by
 rw[decode_eq];repeat' split
 all_goals omega
theorem dec_le (s:ByteArray)(i:Nat)(h:i<s.size):i+(Utf8.decode s i).2≤s.size:=by
 rw[decode_eq];repeat' split
 all_goals omega
theorem good_cases (s:ByteArray)(i:Nat)(h:bad s i=false) :
  (at' s i<128∧Utf8.decode s i=(at' s i,1))∨
  (i+1<s.size∧128≤run s i∧run s i<2048∧at' s i=192+run s i/64∧at' s (i+1)=128+run s i%64∧(Utf8.decode s i).2=2)∨
  (i+2<s.size∧2048≤run s i∧run s i<65536∧Utf8.valid (run s i:Int)=true∧at' s i=224+run s i/4096∧at' s (i+1)=128+run s i/64%64∧at' s (i+2)=128+run s i%64∧(Utf8.decode s i).2=3)∨
  (i+3<s.size∧65536≤run s i∧Utf8.valid (run s i:Int)=true∧at' s i=240+run s i/262144∧at' s (i+1)=128+run s i/4096%64∧at' s (i+2)=128+run s i/64%64∧at' s (i+3)=128+run s i%64∧(Utf8.decode s i).2=4):=by
 have h0:=at_lt s i;have h1:=at_lt s (i+1);have h2:=at_lt s (i+2);have h3:=at_lt s (i+3);unfold bad at h;unfold run;rw[decode_eq]at h ⊢;by_cases c1:at' s i<128
 ·left;rw[if_pos c1]at h ⊢;exact⟨c1,rfl⟩
 rw[if_neg c1]at h ⊢;by_cases c2:at' s i/32=6∧i+1<s.size∧at' s (i+1)/64=2
 ·rw[if_pos c2]at h ⊢
  by_cases d:128≤(at' s i%32)*64+at' s (i+1)%64
  ·rw[if_pos d]at h ⊢;right;left;dsimp only;omega
  ·rw[if_neg d]at h;simp at h
 rw[if_neg c2]at h ⊢;by_cases c3:at' s i/16=14∧(i+1<s.size∧at' s (i+1)/64=2)∧(i+2<s.size∧at' s (i+2)/64=2)
 ·rw[if_pos c3]at h ⊢
  by_cases d:2048≤(at' s i%16)*4096+(at' s (i+1)%64)*64+at' s (i+2)%64∧Utf8.valid (((at' s i%16)*4096+(at' s (i+1)%64)*64+at' s (i+2)%64:Nat):Int)=true
  ·rw[if_pos d]at h ⊢;right;right;left;dsimp only;refine⟨by omega,by omega,by omega,d.2,by omega,by omega,by omega,rfl⟩
  ·rw[if_neg d]at h;simp at h
 rw[if_neg c3]at h ⊢;by_cases c4:at' s i/8=30∧(i+1<s.size∧at' s (i+1)/64=2)∧(i+2<s.size∧at' s (i+2)/64=2)∧(i+3<s.size∧at' s (i+3)/64=2)
 ·rw[if_pos c4]at h ⊢
  by_cases d:65536≤(at' s i%8)*262144+(at' s (i+1)%64)*4096+(at' s (i+2)%64)*64+at' s (i+3)%64∧Utf8.valid (((at' s i%8)*262144+(at' s (i+1)%64)*4096+(at' s (i+2)%64)*64+at' s (i+3)%64:Nat):Int)=true
  ·rw[if_pos d]at h ⊢;right;right;right;dsimp only;refine⟨by omega,by omega,d.2,by omega,by omega,by omega,by omega,rfl⟩
  ·rw[if_neg d]at h;simp at h
 ·rw[if_neg c4]at h;simp at h
theorem dec1 (s:ByteArray)(i:Nat)(h:at' s i<128):Utf8.decode s i=(at' s i,1):=by
 rw[decode_eq,if_pos h]
theorem dec2 (s:ByteArray)(i n:Nat)(hi:i+1<s.size)(h1:128≤n)(h2:n<2048)(b0:at' s i=192+n/64)(b1:at' s (i+1)=128+n%64):Utf8.decode s i=(n,2):=by
 rw[decode_eq,if_neg (by omega),if_pos (by omega),if_pos (by omega)];congr 1;omega
theorem dec3 (s:ByteArray)(i n:Nat)(hi:i+2<s.size)(h1:2048≤n)(h2:n<65536)(hv:Utf8.valid (n:Int)=true)(b0:at' s i=224+n/4096)(b1:at' s (i+1)=128+n/64%64)(b2:at' s (i+2)=128+n%64):Utf8.decode s i=(n,3):=by
 have e:(at' s i%16)*4096+(at' s (i+1)%64)*64+at' s (i+2)%64=n:=(by omega);rw[decode_eq,if_neg (by omega),if_neg (by omega),if_pos (by omega),e,if_pos ⟨h1,hv⟩]
theorem dec4 (s:ByteArray)(i n:Nat)(hi:i+3<s.size)(h1:65536≤n)(hv:Utf8.valid (n:Int)=true)(b0:at' s i=240+n/262144)(b1:at' s (i+1)=128+n/4096%64)(b2:at' s (i+2)=128+n/64%64)(b3:at' s (i+3)=128+n%64):Utf8.decode s i=(n,4):=by
 have h2:n≤1114111:=(by have:=(valid_iff _).1 hv;omega);have e:(at' s i%8)*262144+(at' s (i+1)%64)*4096+(at' s (i+2)%64)*64+at' s (i+3)%64=n:=(by omega);rw[decode_eq,if_neg (by omega),if_neg (by omega),if_neg (by omega),if_pos (by omega),e,if_pos ⟨h1,hv⟩]
theorem good_valid (s:ByteArray)(i:Nat)(h:bad s i=false):Utf8.valid (run s i:Int)=true:=by
 rw[valid_iff];rcases good_cases s i h with ⟨h1,h2⟩|⟨_,h1,h2,_⟩|⟨_,_,_,h1,_⟩|⟨_,_,h1,_⟩
 ·unfold run;rw[h2];dsimp only;omega
 ·omega
 ·exact(valid_iff _).1 h1
 ·exact(valid_iff _).1 h1
theorem good_width (s:ByteArray)(i:Nat)(h:bad s i=false):(Utf8.decode s i).2=if run s i<128 then 1 else if run s i<2048 then 2 else if run s i<65536 then 3 else 4:=by
 rcases good_cases s i h with ⟨h1,h2⟩|⟨_,h1,h2,_,_,h3⟩|⟨_,h1,h2,_,_,_,_,h3⟩|⟨_,h1,_,_,_,_,_,h3⟩
 ·have:run s i=at' s i:=by unfold run;rw[h2]
  rw[this,if_pos h1,h2]
 all_goals rw[h3];(repeat' split)<;>omega
def rep (s:ByteArray)(i:Nat):Bool:=decide (i+3≤s.size) && ((s.extract i (i+3)).toList==[239,191,189])
theorem rep_iff (s:ByteArray)(i:Nat):rep s i=true↔i+3≤s.size∧at' s i=239∧at' s (i+1)=191∧at' s (i+2)=189:=by
 unfold rep;rw[Bool.and_eq_true,decide_eq_true_eq,beq_iff_eq,Lib.extract_toList]
 constructor
 ·rintro⟨h,e⟩
  have hl:s.data.toList.length=s.size:=(Lib.size_eq s).symm;have g:∀k,k<3→s.data.toList[i+k]?=[239,191,189][k]?:=by
   intro k hk;rw[←e,List.getElem?_take,if_pos (by omega),List.getElem?_drop]
  have get:∀k,i+k<s.size→s.data.toList[i+k]?=some (s.get! (i+k)):=by
   intro k hk;have:=get_at s (i+k) hk;rw[Nat.add_zero]at this;rw[this];simp[ByteArray.getElem_eq_getElem_data,hk]
  refine⟨h,?_,?_,?_⟩
  ·have a:=g 0 (by omega);rw[get 0 (by omega)]at a;simp at a;rw[at',a];rfl
  ·have a:=g 1 (by omega);rw[get 1 (by omega)]at a;simp at a;rw[at',a];rfl
  ·have a:=g 2 (by omega);rw[get 2 (by omega)]at a;simp at a;rw[at',a];rfl
 ·rintro⟨h,a0,a1,a2⟩
  refine⟨h,?_⟩;have hl:s.data.toList.length=s.size:=(Lib.size_eq s).symm;have get:∀k,i+k<s.size→s.data.toList[i+k]?=some (s.get! (i+k)):=by
   intro k hk;have:=get_at s (i+k) hk;rw[Nat.add_zero]at this;rw[this];simp[ByteArray.getElem_eq_getElem_data,hk]
  apply List.ext_getElem?;intro k;rw[List.getElem?_take];by_cases hk:k<3
  ·rw[if_pos (by omega),List.getElem?_drop,get k (by omega)]
   match k,hk with
   |0,_=>simp;exact UInt8.toNat_inj.1 a0
   |1,_=>simp;exact UInt8.toNat_inj.1 a1
   |2,_=>simp;exact UInt8.toNat_inj.1 a2
  ·rw[if_neg (by omega),List.getElem?_eq_none (by simp;omega)]
theorem bad_iff (s:ByteArray)(i:Nat)(_h:i<s.size):bad s i=true↔(Utf8.decode s i).1=65533∧rep s i=false:=by
 constructor
 ·intro hb
  have hd:Utf8.decode s i=(65533,1):=(by unfold bad at hb;rwa[beq_iff_eq]at hb);refine⟨by rw[hd],?_⟩;cases hr:rep s i with
  |false=>rfl
  |true=>
   obtain⟨h1,a0,a1,a2⟩:=(rep_iff s i).1 hr;have:=dec3 s i 65533 (by omega) (by omega) (by omega) (by decide) a0 a1 a2;rw[hd]at this;simp at this
 ·rintro⟨h1,h2⟩
  cases hb:bad s i with
  |true=>rfl
  |false=>
   have hr:run s i=65533:=h1;rcases good_cases s i hb with ⟨h3,h4⟩|⟨_,_,h3,_⟩|⟨h3,_,_,_,a0,a1,a2,_⟩|⟨_,h3,_⟩
   ·rw[h4]at h1;dsimp only at h1;omega
   ·omega
   ·have:rep s i=true:=(rep_iff s i).2 ⟨by omega,by omega,by omega,by omega⟩
    rw[this]at h2;cases h2
   ·omega
def vfrom (s:ByteArray)(p:Nat):Bool:=
 if _h:p<s.size then(if bad s p then false else vfrom s (p+(Utf8.decode s p).2)) else true
termination_by s.size-p
decreasing_by have:=dec_pos s p;omega
def valid (s:ByteArray):Bool:=vfrom s 0
theorem vfrom_bad (s:ByteArray)(p:Nat)(h:p<s.size)(hb:bad s p=true):vfrom s p=false:=by rw[vfrom,dif_pos h,if_pos hb]
theorem vfrom_step (s:ByteArray)(p:Nat)(h:p<s.size)(hb:bad s p=false):vfrom s p=vfrom s (p+(Utf8.decode s p).2):=by rw[vfrom,dif_pos h,if_neg (by simp[hb])]
theorem vfrom_end (s:ByteArray)(p:Nat)(h:¬ p<s.size):vfrom s p=true:=by rw[vfrom,dif_neg h]
end Go.Proofs.YtieknenhfeejiaaGreatDoor.U
namespace Go.Proofs.YtieknenhfeejiaaGreatDoor.U
open Go
theorem data_get (s:ByteArray)(k:Nat)(h:k<s.size):s.data.toList[k]?=some (s.get! k):=by
 have:=get_at s k h;rw[Nat.add_zero]at this;rw[this];simp[ByteArray.getElem_eq_getElem_data,h]
theorem ext_iff (s:ByteArray)(i:Nat)(l:List UInt8)(hi:i+l.length≤s.size) :
  (s.extract i (i+l.length)).toList=l↔∀k (h:k<l.length),at' s (i+k)=(l[k]'h).toNat:=by
 rw[Lib.extract_toList,Nat.add_sub_cancel_left];have hl:s.data.toList.length=s.size:=(Lib.size_eq s).symm
 constructor
 ·intro e k hk
  have a:((s.data.toList.drop i).take l.length)[k]?=l[k]?:=(by rw[e]);rw[List.getElem?_take,if_pos hk,List.getElem?_drop,data_get s _ (by omega),List.getElem?_eq_getElem hk]at a;rw[at',Option.some.inj a]
 ·intro e
  apply List.ext_getElem?;intro k;rw[List.getElem?_take];by_cases hk:k<l.length
  ·rw[if_pos hk,List.getElem?_drop,data_get s _ (by omega),List.getElem?_eq_getElem hk]
   exact congrArg some (UInt8.toNat_inj.1 (e k hk))
  ·rw[if_neg hk,List.getElem?_eq_none (by omega)]
theorem enc_list (n:Nat)(hv:Utf8.valid (n:Int)=true):(Utf8.encode (n:Int)).toList =
  if n<128 then [UInt8.ofNat n] else if n<2048 then [UInt8.ofNat (192+n/64),UInt8.ofNat (128+n%64)]
  else if n<65536 then [UInt8.ofNat (224+n/4096),UInt8.ofNat (128+n/64%64),UInt8.ofNat (128+n%64)]
  else [UInt8.ofNat (240+n/262144),UInt8.ofNat (128+n/4096%64),UInt8.ofNat (128+n/64%64),UInt8.ofNat (128+n%64)]:=by
 unfold Utf8.encode;simp only[hv,if_true,Int.toNat_natCast]
 repeat' split
 all_goals exact ByteArray.toList_mk _
theorem enc_size (n:Nat)(hv:Utf8.valid (n:Int)=true):(Utf8.encode (n:Int)).size=if n<128 then 1 else if n<2048 then 2 else if n<65536 then 3 else 4:=by
 have:(Utf8.encode (n:Int)).size=(Utf8.encode (n:Int)).toList.length:=(by rw[ByteArray.toList_eq,Lib.size_eq]);rw[this,enc_list n hv]
 repeat' split
 all_goals rfl
def formB (n:Int):ByteArray:=if Utf8.valid n then Utf8.encode n else ⟨#[]⟩
def gs (s:ByteArray)(i:Nat):Nat→Int
 |1=>at' s i
 |2=>((at' s i:Int)-192)*64+at' s (i+1)-128
 |3=>(((at' s i:Int)-224)*64+at' s (i+1)-128)*64+at' s (i+2)-128
 |_=>((((at' s i:Int)-240)*64+at' s (i+1)-128)*64+at' s (i+2)-128)*64+at' s (i+3)-128
def hit (s:ByteArray)(i w:Nat):Bool:=(formB (gs s i w)).size==w && (s.extract i (i+w)).toList==(formB (gs s i w)).toList
theorem ofNat_toNat (n:Nat)(h:n<256):(UInt8.ofNat n).toNat=n:=by
 rw[UInt8.toNat_ofNat'];omega
theorem hit_dec (s:ByteArray)(i w:Nat)(hw:1≤w∧w≤4)(hi:i+w≤s.size)(h:hit s i w=true) :
  0≤gs s i w∧Utf8.decode s i=((gs s i w).toNat,w)∧bad s i=false:=by
 unfold hit at h;rw[Bool.and_eq_true,beq_iff_eq,beq_iff_eq]at h;obtain⟨h1,h2⟩:=h;have hv:Utf8.valid (gs s i w)=true:=by
  cases hv:Utf8.valid (gs s i w) with
  |true=>rfl
  |false=>
   have z:(⟨#[]⟩:ByteArray).size=0:=rfl;simp only[formB,hv,Bool.false_eq_true,if_false]at h1;omega
 have hf:formB (gs s i w)=Utf8.encode (gs s i w):=(by simp[formB,hv]);rw[hf]at h1 h2;have h0:=(valid_iff _).1 hv;obtain⟨n,hn⟩:=Int.eq_ofNat_of_zero_le (show 0≤gs s i w by omega);have hn':gs s i w=(n:Int):=hn;rw[hn']at h1 h2 hv h0 ⊢;have he:=enc_list n hv;have hs:=enc_size n hv;rw[hs]at h1;have hl:(Utf8.encode (n:Int)).toList.length=w:=(by rw[←h1,←hs,ByteArray.toList_eq,Lib.size_eq]);have hx:(s.extract i (i+(Utf8.encode (n:Int)).toList.length)).toList=(Utf8.encode (n:Int)).toList:=(by rw[hl];exact h2);have hb:=(ext_iff s i _ (by rw[hl];exact hi)).1 hx;rw[he]at hb
 have hg:∀d:Utf8.decode s i=(n,w),(0:Int)≤n∧Utf8.decode s i=((n:Int).toNat,w)∧bad s i=false:=by
  intro d;refine⟨by omega,by rw[d];simp,?_⟩;cases hb2:bad s i with
  |false=>rfl
  |true=>
   unfold bad at hb2;rw[beq_iff_eq,d]at hb2;simp only[Prod.mk.injEq]at hb2;obtain⟨q1,q2⟩:=hb2;subst q1;subst q2;exact absurd h1 (by decide)
 by_cases c1:n<128
 ·rw[if_pos c1]at h1
  simp only[if_pos c1]at hb;have b0:=hb 0 (by simp);simp only[List.getElem_cons_zero,Nat.add_zero]at b0;rw[ofNat_toNat n (by omega)]at b0;refine hg ?_;rw[dec1 s i (by omega),b0,←h1]
 rw[if_neg c1]at h1;by_cases c2:n<2048
 ·rw[if_pos c2]at h1
  simp only[if_neg c1,if_pos c2]at hb;have b0:=hb 0 (by simp);have b1:=hb 1 (by simp);simp only[List.getElem_cons_zero,List.getElem_cons_succ,Nat.add_zero]at b0 b1;rw[ofNat_toNat _ (by omega)]at b0 b1;exact hg (by rw[dec2 s i n (by omega) (by omega) c2 b0 b1,h1])
 rw[if_neg c2]at h1;by_cases c3:n<65536
 ·rw[if_pos c3]at h1
  simp only[if_neg c1,if_neg c2,if_pos c3]at hb;have b0:=hb 0 (by simp);have b1:=hb 1 (by simp);have b2:=hb 2 (by simp);simp only[List.getElem_cons_zero,List.getElem_cons_succ,Nat.add_zero]at b0 b1 b2;rw[ofNat_toNat _ (by omega)]at b0 b1 b2;exact hg (by rw[dec3 s i n (by omega) (by omega) c3 hv b0 b1 b2,h1])
 rw[if_neg c3]at h1;simp only[if_neg c1,if_neg c2,if_neg c3]at hb;have b0:=hb 0 (by simp);have b1:=hb 1 (by simp);have b2:=hb 2 (by simp);have b3:=hb 3 (by simp);simp only[List.getElem_cons_zero,List.getElem_cons_succ,Nat.add_zero]at b0 b1 b2 b3;rw[ofNat_toNat _ (by omega)]at b0 b1 b2 b3;exact hg (by rw[dec4 s i n (by omega) (by omega) hv b0 b1 b2 b3,h1])
theorem good_form (s:ByteArray)(i:Nat)(hi:i<s.size)(h:bad s i=false) :
  (s.extract i (i+(Utf8.decode s i).2)).toList=(Utf8.encode (run s i:Int)).toList:=by
 have hv:=good_valid s i h;have hw:=good_width s i h;have hs:=enc_size _ hv;have hl:(Utf8.encode (run s i:Int)).toList.length=(Utf8.decode s i).2:=(by rw[hw,←hs,ByteArray.toList_eq,Lib.size_eq]);rw[←hl];have hle:=dec_le s i hi;rw[ext_iff s i _ (by rw[hl];exact hle)];rw[enc_list _ hv];intro k hk;have hr:run s i≤1114111:=(by have:=(valid_iff _).1 hv;omega);rcases good_cases s i h with ⟨h1,h2⟩|⟨_,h1,h2,a0,a1,h3⟩|⟨_,h1,h2,_,a0,a1,a2,h3⟩|⟨_,h1,_,a0,a1,a2,a3,h3⟩
 ·have e:run s i=at' s i:=by unfold run;rw[h2]
  have h1':run s i<128:=(by omega);simp only[if_pos h1']at hk ⊢;simp at hk;subst hk;simp only[List.getElem_cons_zero,Nat.add_zero];rw[ofNat_toNat _ (by omega),e]
 ·simp only[if_neg (show ¬ run s i<128 by omega),if_pos h2]at hk ⊢
  have hk':k<2:=hk;rcases (show k=0∨k=1 by omega) with rfl|rfl
  ·simp only[List.getElem_cons_zero,Nat.add_zero];rw[ofNat_toNat _ (by omega),a0]
  ·simp only[List.getElem_cons_zero,List.getElem_cons_succ];rw[ofNat_toNat _ (by omega),a1]
 ·simp only[if_neg (show ¬ run s i<128 by omega),if_neg (show ¬ run s i<2048 by omega),if_pos h2]at hk ⊢
  have hk':k<3:=hk;rcases (show k=0∨k=1∨k=2 by omega) with rfl|rfl|rfl
  ·simp only[List.getElem_cons_zero,Nat.add_zero];rw[ofNat_toNat _ (by omega),a0]
  ·simp only[List.getElem_cons_zero,List.getElem_cons_succ];rw[ofNat_toNat _ (by omega),a1]
  ·simp only[List.getElem_cons_zero,List.getElem_cons_succ];rw[ofNat_toNat _ (by omega),a2]
 ·simp only[if_neg (show ¬ run s i<128 by omega),if_neg (show ¬ run s i<2048 by omega),if_neg (show ¬ run s i<65536 by omega)]at hk ⊢
  have hk':k<4:=hk;rcases (show k=0∨k=1∨k=2∨k=3 by omega) with rfl|rfl|rfl|rfl
  ·simp only[List.getElem_cons_zero,Nat.add_zero];rw[ofNat_toNat _ (by omega),a0]
  ·simp only[List.getElem_cons_zero,List.getElem_cons_succ];rw[ofNat_toNat _ (by omega),a1]
  ·simp only[List.getElem_cons_zero,List.getElem_cons_succ];rw[ofNat_toNat _ (by omega),a2]
  ·simp only[List.getElem_cons_zero,List.getElem_cons_succ];rw[ofNat_toNat _ (by omega),a3]
theorem dec_hit (s:ByteArray)(i:Nat)(hi:i<s.size)(h:bad s i=false):hit s i (Utf8.decode s i).2=true:=by
 have hv:=good_valid s i h;have hw:=good_width s i h;have hr:run s i≤1114111:=(by have:=(valid_iff _).1 hv;omega);have hg:gs s i (Utf8.decode s i).2=(run s i:Int):=by
  rcases good_cases s i h with ⟨h1,h2⟩|⟨_,h1,h2,a0,a1,h3⟩|⟨_,h1,h2,_,a0,a1,a2,h3⟩|⟨_,h1,_,a0,a1,a2,a3,h3⟩
  ·have e:run s i=at' s i:=by unfold run;rw[h2]
   rw[e,h2];rfl
  ·rw[h3];simp only[gs];omega
  ·rw[h3];simp only[gs];omega
  ·rw[h3];simp only[gs];omega
 unfold hit;rw[hg];have hf:formB (run s i:Int)=Utf8.encode (run s i:Int):=(by simp[formB,hv]);rw[hf,good_form s i hi h,enc_size _ hv,←hw];simp
theorem no_hit (s:ByteArray)(i:Nat)(hi:i<s.size)(h:∀w,1≤w→w≤4→i+w≤s.size→hit s i w=false):bad s i=true:=by
 cases hb:bad s i with
 |true=>rfl
 |false=>
  have:=dec_hit s i hi hb;have h1:=dec_pos s i;rw[h _ h1.1 h1.2 (dec_le s i hi)]at this;cases this
end Go.Proofs.YtieknenhfeejiaaGreatDoor.U
