/- The walks of utf.replaced, utf.width, utf.Valid, weirref01.IsRune, Form, gues .. -/
import Derived.Laws.BitsAllLaws
import Derived.Laws.BitsLemmas
import Derived.Test.YtieknenhfeejiaaGreatDoorBase4
set_option linter.unusedVariables false
set_option linter.unusedSimpArgs false
namespace Go.Proofs.YtieknenhfeejiaaGreatDoor
open _root_.Go.Proofs.Tryz
open Go.RowKit
theorem replaced_any (s:ByteArray)(i:Nat)(w:World)(hs:s.size≤1125899906842624)(hi:i≤s.size) :
  Calls prog 77 #[.string s,.int .i64 i] w fun e w'=>e=.returned (.bool (U.rep s i))∧w=w':=by
 by_cases h3:i+3≤s.size
 ·have hd:decide (i+3≤s.size)=true:=by simpa using h3
  go_enter func77,ntmps77;go_wp2
  all_goals go_ret
  all_goals exact⟨ret_bool (by unfold U.rep;rw[hd];rfl),rfl⟩
 ·have hd:decide (i+3≤s.size)=false:=by simpa using h3
  go_enter func77,ntmps77;go_wp2
  all_goals go_ret
  all_goals exact⟨ret_bool (by unfold U.rep;rw[hd];rfl),rfl⟩
theorem Valid_any (s:ByteArray)(w:World)(hs:s.size≤1125899906842624) :
  Calls prog 45 #[.string s] w fun e w'=>e=.returned (.bool (U.valid s))∧Below w.heap.size w w':=by
 go_enter func45,ntmps45;go_wp2;go_loopw [] (fun wr=>∃pos:Nat,pos≤s.size∧wr=w.iter s pos∧Hid (U.vfrom s pos=U.valid s)) (fun wr=>s.size-wr.iterPos w.heap.size)
 case atStart=>exact⟨0,Nat.zero_le _,rfl,rfl⟩
 case round=>
  obtain⟨pos,hpos,rfl,hv⟩:=hrel;by_cases hp:pos<s.size
  ·have hnx:=fun ty=>run_next_any (P:=prog) w s pos ty hp
   have hb1:=decode_le s pos;have hdp:=U.dec_pos s pos;have hle:=U.dec_le s pos hp;by_cases hr:(Utf8.decode s pos).1=65533
   ·have hr':Hid ((Utf8.decode s pos).1=65533):=hr
    have hb:(((Utf8.decode s pos).1:Int)==65533)=true:=(by rw[hr];rfl);clear hr;cases hrep:U.rep s pos with
    |false=>
     have hbad:=(U.bad_iff s pos hp).2 ⟨hr'.out,hrep⟩;have H:Hid (U.rep s pos=false):=hrep;have G:Hid (U.valid s=false):=(by rw[←hv.out];exact U.vfrom_bad s pos hp hbad);clear hrep hbad;go_wp2_with (go_at_call 77;refine(replaced_any s pos _ hs hpos).mono ?_;rintro e w' ⟨rfl,rfl⟩;rw[H.out])
     go_ret;exact⟨ret_bool G.out.symm,(Below.refl _ _).alloc (Nat.le_refl _) _⟩
    |true=>
     have hbad:U.bad s pos=false:=by
      cases hb:U.bad s pos with
      |false=>rfl
      |true=>have:=((U.bad_iff s pos hp).1 hb).2;rw[hrep]at this;cases this
     have H:Hid (U.rep s pos=true):=hrep;have G:Hid (U.vfrom s (pos+(Utf8.decode s pos).2)=U.valid s):=(by rw[←hv.out];exact(U.vfrom_step s pos hp hbad).symm);clear hrep hbad;go_wp2_with (go_at_call 77;refine(replaced_any s pos _ hs hpos).mono ?_;rintro e w' ⟨rfl,rfl⟩;rw[H.out])
     go_roundw
     case rel=>exact⟨_,hle,rfl,G⟩
     case measure=>simp;omega
   ·have hb:(((Utf8.decode s pos).1:Int)==65533)=false:=by rw[bf];omega
    have hbad:U.bad s pos=false:=by
     cases hb:U.bad s pos with
     |false=>rfl
     |true=>exact absurd ((U.bad_iff s pos hp).1 hb).1 hr
    have G:Hid (U.vfrom s (pos+(Utf8.decode s pos).2)=U.valid s):=(by rw[←hv.out];exact(U.vfrom_step s pos hp hbad).symm);clear hbad hr;go_wp2;go_roundw
    case rel=>exact⟨_,hle,rfl,G⟩
    case measure=>simp;omega
  ·have hnx:=fun ty=>run_next_end (P:=prog) w s pos ty hp
   have G:Hid (U.valid s=true):=(by rw[←hv.out];exact U.vfrom_end s pos hp);go_wp2;go_ret;exact⟨ret_bool G.out.symm,(Below.refl _ _).alloc (Nat.le_refl _) _⟩
end Go.Proofs.YtieknenhfeejiaaGreatDoor
namespace Go.Proofs.YtieknenhfeejiaaGreatDoor
open _root_.Go.Proofs.Tryz
theorem ofInt_i32 (a:Nat)(ha:a<2147483648):(BitVec.ofInt 32 (a:Int)).toNat=a:=by
 rw[BitVec.ofInt_natCast,BitVec.toNat_ofNat];exact Nat.mod_eq_of_lt (by omega)
theorem i32_and_nat (a b:Nat)(ha:a<2147483648)(hb:b<2147483648):bits .and .i32 (a:Int) (b:Int)=((a &&& b:Nat):Int):=by
 have hx:a &&& b<2^31:=Nat.and_lt_two_pow _ (by omega);show IntKind.i32.wrap ((BitVec.ofInt 32 (a:Int) &&& BitVec.ofInt 32 (b:Int)).toNat:Int)=_
 rw[BitVec.toNat_and,ofInt_i32 a ha,ofInt_i32 b hb];rw[IntKind.wrap_i32];omega
theorem and63 (r:Int)(h0:0≤r)(h1:r≤2147483647):bits .and .i32 r 63=r%64:=by
 obtain⟨n,rfl⟩:=Int.eq_ofNat_of_zero_le h0;have h:=i32_and_nat n 63 (by omega) (by omega);have h2:n &&& 63=n%64:=Nat.and_two_pow_sub_one_eq_mod n 6;rw[h2]at h;exact h.trans (by omega)
theorem or_all:∀x:Nat,x<64→bits .or .u8 128 (x:Int)=128+x∧(x<32→bits .or .u8 192 (x:Int)=192+x)∧(x<16→bits .or .u8 224 (x:Int)=224+x)∧(x<8→bits .or .u8 240 (x:Int)=240+x):=by decide +kernel
theorem or128 (x:Int)(h0:0≤x)(h1:x<64):bits .or .u8 128 x=128+x:=by
 obtain⟨n,rfl⟩:=Int.eq_ofNat_of_zero_le h0;exact(or_all n (by omega)).1
theorem or192 (x:Int)(h0:0≤x)(h1:x<32):bits .or .u8 192 x=192+x:=by
 obtain⟨n,rfl⟩:=Int.eq_ofNat_of_zero_le h0;exact(or_all n (by omega)).2.1 (by omega)
theorem or224 (x:Int)(h0:0≤x)(h1:x<16):bits .or .u8 224 x=224+x:=by
 obtain⟨n,rfl⟩:=Int.eq_ofNat_of_zero_le h0;exact(or_all n (by omega)).2.2.1 (by omega)
theorem or240 (x:Int)(h0:0≤x)(h1:x<8):bits .or .u8 240 x=240+x:=by
 obtain⟨n,rfl⟩:=Int.eq_ofNat_of_zero_le h0;exact(or_all n (by omega)).2.2.2 (by omega)
end Go.Proofs.YtieknenhfeejiaaGreatDoor
namespace Go.Proofs.YtieknenhfeejiaaGreatDoor
open _root_.Go.Proofs.Tryz
open Go.RowKit
theorem tail_any (r:Int)(w:World)(h0:0≤r)(h:r≤1114111) :
  Calls prog 102 #[.int .i32 r] w fun e w'=>e=.returned (.int .u8 (128+r%64))∧w=w':=by
 have e1:=and63 r h0 (by omega);have e2:=or128 (r%64) (by omega) (by omega);have e3:r%64%256=r%64:=(by omega);go_enter func102,ntmps102;go_wp2;go_ret;exact⟨rfl,rfl⟩
theorem isRune_any (r:Int)(w:World)(h1 : -2147483648≤r)(h2:r≤2147483647) :
  Calls prog 89 #[.int .i32 r] w fun e w'=>e=.returned (.bool (Utf8.valid r))∧w=w':=by
 go_enter func89,ntmps89;go_wp2
 all_goals go_ret
 all_goals exact⟨ret_bool (by rw[Bool.eq_iff_iff,U.valid_iff];simp;omega),rfl⟩
theorem info_u8:(prog.info? 5).map (fun i=>(i.zero,i.size,i.bytes))=some (some (.int .u8 0),1,1):=by kernel_rfl
theorem form_any (r:Int)(hv:Utf8.valid r=true)(B:Nat)(v:Value)(n:Nat)(xs:List Value)(w:World)(hown:w.ownsRow B 5 1 v n xs)(hB:B≤w.heap.size)(hn:n≤140737488351232) :
  Calls prog 71 #[v,.int .i32 r] w (Appd B 5 1 w v n xs (Utf8.encode r).toList.length (cellsB (Utf8.encode r).toList)):=by
 have hr:=(U.valid_iff _).1 hv;have hr0:0≤r:=(by omega);have hr1:r≤1114111:=(by omega);clear hr;have HV:Unit→Utf8.valid r=true:=fun _=>hv
 clear hv;by_cases h1:r<128
 ·go_enter func71,ntmps71
  go_wp2_with (at_builtin;refine wpList_app_lit 63 5 (.int .u8 0) 1 1 underlying63 info_u8 rfl (by decide) rfl _ _ rfl B v n xs w #[.int .u8 r] 1 rfl rfl hown rfl ?c1 ?c2 ?c3 hB ?_)
  case c1=>simp[Value.oneCell']
  case c2=>omega
  case c3=>omega
  intro v' w' ho hg;go_wp2;go_ret;refine⟨v',rfl,?_,hg⟩;obtain⟨m,rfl⟩:=Int.eq_ofNat_of_zero_le hr0;rw[U.enc_list m (HV ())];rw[if_pos (by omega)];have e:cellsB [UInt8.ofNat (m)]=[.int .u8 (m:Int)]:=by
   simp only[cellsB,List.map_cons,List.map_nil];rw[U.ofNat_toNat _ (by omega)]
  rw[e];exact ho
 by_cases h2:r<2048
 ·have e6:r/64%256=r/64:=by omega
  have o1:=or192 (r/64) (by omega) (by omega);go_enter func71,ntmps71;go_wp2_with (first|(go_at_call 102;refine(tail_any _ _ (by omega) (by omega)).mono ?_;rintro e w' ⟨rfl,rfl⟩)|(at_builtin;refine wpList_app_lit 63 5 (.int .u8 0) 1 1 underlying63 info_u8 rfl (by decide) rfl _ _ rfl B v n xs w #[.int .u8 (192+r/64),.int .u8 (128+r%64)] 2 rfl rfl hown rfl ?c1 ?c2 ?c3 hB ?_))
  case c1=>simp[Value.oneCell']
  case c2=>omega
  case c3=>omega
  intro v' w' ho hg;go_wp2;go_ret;refine⟨v',rfl,?_,hg⟩;obtain⟨m,rfl⟩:=Int.eq_ofNat_of_zero_le hr0;rw[U.enc_list m (HV ())];rw[if_neg (by omega),if_pos (by omega)];have e:cellsB [UInt8.ofNat (192+m/64),UInt8.ofNat (128+m%64)]=[.int .u8 (192+(m:Int)/64),.int .u8 (128+(m:Int)%64)]:=by
   simp only[cellsB,List.map_cons,List.map_nil];rw[U.ofNat_toNat _ (by omega),U.ofNat_toNat _ (by omega)];rfl
  rw[e];exact ho
 by_cases h3:r<65536
 ·have e6:r/4096%256=r/4096:=by omega
  have o1:=or224 (r/4096) (by omega) (by omega);go_enter func71,ntmps71;go_wp2_with (first|(go_at_call 102;refine(tail_any _ _ (by omega) (by omega)).mono ?_;rintro e w' ⟨rfl,rfl⟩)|(at_builtin;refine wpList_app_lit 63 5 (.int .u8 0) 1 1 underlying63 info_u8 rfl (by decide) rfl _ _ rfl B v n xs w #[.int .u8 (224+r/4096),.int .u8 (128+r/64%64),.int .u8 (128+r%64)] 3 rfl rfl hown rfl ?c1 ?c2 ?c3 hB ?_))
  case c1=>simp[Value.oneCell']
  case c2=>omega
  case c3=>omega
  intro v' w' ho hg;go_wp2;go_ret;refine⟨v',rfl,?_,hg⟩;obtain⟨m,rfl⟩:=Int.eq_ofNat_of_zero_le hr0;rw[U.enc_list m (HV ())];rw[if_neg (by omega),if_neg (by omega),if_pos (by omega)];have e:cellsB [UInt8.ofNat (224+m/4096),UInt8.ofNat (128+m/64%64),UInt8.ofNat (128+m%64)]=[.int .u8 (224+(m:Int)/4096),.int .u8 (128+(m:Int)/64%64),.int .u8 (128+(m:Int)%64)]:=by
   simp only[cellsB,List.map_cons,List.map_nil];rw[U.ofNat_toNat _ (by omega),U.ofNat_toNat _ (by omega),U.ofNat_toNat _ (by omega)];rfl
  rw[e];exact ho
 ·have e6:r/262144%256=r/262144:=by omega
  have o1:=or240 (r/262144) (by omega) (by omega);go_enter func71,ntmps71;go_wp2_with (first|(go_at_call 102;refine(tail_any _ _ (by omega) (by omega)).mono ?_;rintro e w' ⟨rfl,rfl⟩)|(at_builtin;refine wpList_app_lit 63 5 (.int .u8 0) 1 1 underlying63 info_u8 rfl (by decide) rfl _ _ rfl B v n xs w #[.int .u8 (240+r/262144),.int .u8 (128+r/4096%64),.int .u8 (128+r/64%64),.int .u8 (128+r%64)] 4 rfl rfl hown rfl ?c1 ?c2 ?c3 hB ?_))
  case c1=>simp[Value.oneCell']
  case c2=>omega
  case c3=>omega
  intro v' w' ho hg;go_wp2;go_ret;refine⟨v',rfl,?_,hg⟩;obtain⟨m,rfl⟩:=Int.eq_ofNat_of_zero_le hr0;rw[U.enc_list m (HV ())];rw[if_neg (by omega),if_neg (by omega),if_neg (by omega)];have e:cellsB [UInt8.ofNat (240+m/262144),UInt8.ofNat (128+m/4096%64),UInt8.ofNat (128+m/64%64),UInt8.ofNat (128+m%64)]=[.int .u8 (240+(m:Int)/262144),.int .u8 (128+(m:Int)/4096%64),.int .u8 (128+(m:Int)/64%64),.int .u8 (128+(m:Int)%64)]:=by
   simp only[cellsB,List.map_cons,List.map_nil];rw[U.ofNat_toNat _ (by omega),U.ofNat_toNat _ (by omega),U.ofNat_toNat _ (by omega),U.ofNat_toNat _ (by omega)];rfl
  rw[e];exact ho
end Go.Proofs.YtieknenhfeejiaaGreatDoor
namespace Go.Proofs.YtieknenhfeejiaaGreatDoor.U
open _root_.Go.Proofs.Tryz
open Go
def lit (s:ByteArray)(q i:Nat):Option Nat:=
 if _h:i<s.size then
  (if at' s i=q then some (i+1) else if q=96 then lit s q (i+1) else if at' s i=10 then none
   else if at' s i=92 then(if i+1<s.size∧at' s (i+1)=10 then none else lit s q (i+2)) else lit s q (i+1))
 else none
termination_by s.size-i
decreasing_by all_goals omega
theorem lit_end (s:ByteArray)(q i:Nat)(h:¬ i<s.size):lit s q i=none:=by rw[lit,dif_neg h]
theorem lit_hit (s:ByteArray)(q i:Nat)(h:i<s.size)(hq:at' s i=q):lit s q i=some (i+1):=by rw[lit,dif_pos h,if_pos hq]
theorem lit_raw (s:ByteArray)(i:Nat)(h:i<s.size)(hq:at' s i≠96):lit s 96 i=lit s 96 (i+1):=by rw[lit,dif_pos h,if_neg hq,if_pos rfl]
theorem lit_nl (s:ByteArray)(q i:Nat)(h:i<s.size)(hq:at' s i≠q)(h96:q≠96)(hn:at' s i=10):lit s q i=none:=by rw[lit,dif_pos h,if_neg hq,if_neg h96,if_pos hn]
theorem lit_esc_nl (s:ByteArray)(q i:Nat)(h:i+1<s.size)(hq:at' s i≠q)(h96:q≠96)(hb:at' s i=92)(hn:at' s (i+1)=10):lit s q i=none:=by
 rw[lit,dif_pos (by omega),if_neg hq,if_neg h96,if_neg (by omega),if_pos hb,if_pos ⟨h,hn⟩]
theorem lit_esc (s:ByteArray)(q i:Nat)(h:i<s.size)(hq:at' s i≠q)(h96:q≠96)(hb:at' s i=92)(hn:¬ (i+1<s.size∧at' s (i+1)=10)):lit s q i=lit s q (i+2):=by
 rw[lit,dif_pos h,if_neg hq,if_neg h96,if_neg (by omega),if_pos hb,if_neg hn]
theorem lit_step (s:ByteArray)(q i:Nat)(h:i<s.size)(hq:at' s i≠q)(h96:q≠96)(hn:at' s i≠10)(hb:at' s i≠92):lit s q i=lit s q (i+1):=by
 rw[lit,dif_pos h,if_neg hq,if_neg h96,if_neg hn,if_neg hb]
def litR:Option Nat→Int×Int
 |some n=>(n,0)
 |none=>(0,10)
def literal (s:ByteArray)(i:Int):Int×Int:=
 if 0≤i∧i<s.size then
  (if at' s i.toNat=34∨at' s i.toNat=39∨at' s i.toNat=96 then litR (lit s (at' s i.toNat) (i.toNat+1)) else(0,10))
 else(0,10)
theorem literal_out (s:ByteArray)(i:Int)(h:i<0∨s.size≤i):literal s i=(0,10):=by unfold literal;rw[if_neg (by omega)]
theorem literal_no (s:ByteArray)(i:Nat)(h:i<s.size)(hq:at' s i≠34∧at' s i≠39∧at' s i≠96):literal s i=(0,10):=by
 unfold literal;rw[if_pos (by omega),Int.toNat_natCast,if_neg (by omega)]
theorem literal_in (s:ByteArray)(i:Nat)(h:i<s.size)(hq:at' s i=34∨at' s i=39∨at' s i=96):literal s i=litR (lit s (at' s i) (i+1)):=by
 unfold literal;rw[if_pos (by omega),Int.toNat_natCast,if_pos hq]
/-! ### digits -/
def dig (c:Nat):Int:=if 48≤c∧c≤57 then(c:Int)-48 else if 97≤c∧c≤102 then(c:Int)-87 else if 65≤c∧c≤70 then(c:Int)-55 else -1
theorem dig_bd (c:Nat) : -1≤dig c∧dig c≤15:=by unfold dig;(repeat' split)<;>omega
def numF (base:Nat):List UInt8→Nat→Option Nat
 |[],v=>some v
 |c::r,v=>if 0≤dig c.toNat∧dig c.toNat<base then numF base r (v*base+(dig c.toNat).toNat) else none
def numL (base k:Nat)(l:List UInt8):Option Nat:=if l.length<k then none else numF base (l.take k) 0
def numP (base:Nat):List UInt8→Nat→Option Nat
 |[],v=>some v
 |c::r,v=>if 0≤dig c.toNat∧dig c.toNat<base∧v≤8388607 then numP base r (v*base+(dig c.toNat).toNat) else none
theorem numF_ge (base:Nat)(hb:1≤base):∀(l:List UInt8) (v r:Nat),numF base l v=some r→v≤r
 |[],v,r,h=>by simp[numF]at h;omega
 |c::l,v,r,h=>by
  simp only[numF]at h;split at h
  ·have:=numF_ge base hb l _ _ h
   have:=Nat.le_mul_of_pos_right v hb;omega
  ·cases h
theorem numP_some (base:Nat):∀(l:List UInt8) (v r:Nat),numP base l v=some r→numF base l v=some r
 |[],v,r,h=>by simpa[numP,numF] using h
 |c::l,v,r,h=>by
  simp only[numP]at h;split at h
  ·rename_i hc
   simp only[numF];rw[if_pos ⟨hc.1,hc.2.1⟩];exact numP_some base l _ _ h
  ·cases h
theorem numP_none (base:Nat)(hb:2≤base):∀(l:List UInt8) (v:Nat),numP base l v=none→numF base l v=none∨∃r,numF base l v=some r∧1114111<r
 |[],v,h=>by simp[numP]at h
 |c::l,v,h=>by
  simp only[numP]at h;simp only[numF];by_cases hd:0≤dig c.toNat∧dig c.toNat<base
  ·rw[if_pos hd]
   by_cases hv:v≤8388607
   ·rw[if_pos ⟨hd.1,hd.2,hv⟩]at h
    exact numP_none base hb l _ h
   ·cases hf:numF base l (v*base+(dig c.toNat).toNat) with
    |none=>exact .inl rfl
    |some r=>
     have:=numF_ge base (by omega) l _ _ hf;have:=Nat.le_mul_of_pos_right v (show 0<base by omega);exact .inr ⟨r,rfl,by omega⟩
  ·rw[if_neg hd];exact .inl rfl
theorem numF_lt (base:Nat)(hb:1≤base):∀(l:List UInt8) (v r:Nat),numF base l v=some r→r<(v+1)*base^l.length
 |[],v,r,h=>by simp[numF]at h;simp;omega
 |c::l,v,r,h=>by
  simp only[numF]at h;split at h
  ·rename_i hc
   have h1:=numF_lt base hb l _ _ h;have h2:v*base+(dig c.toNat).toNat+1≤(v+1)*base:=(by rw[Nat.add_mul];omega);have h3:=Nat.mul_le_mul_right (base^l.length) h2;rw[List.length_cons,Nat.pow_succ,←Nat.mul_assoc,Nat.mul_right_comm];omega
  ·cases h
/-! ### escapes -/
def plainB (c:Nat):Nat:=if c=97 then 7 else if c=98 then 8 else if c=116 then 9 else if c=110 then 10 else if c=118 then 11 else if c=102 then 12 else 13
def isLetter (c:Nat):Bool:=c==97 ||c==98 ||c==116 ||c==110 ||c==118 ||c==102 ||c==114
def byteOf (v:Nat):List UInt8:=[UInt8.ofNat v]
def escL (q:Nat):List UInt8→Option (List UInt8×Nat)
 |[]=>none
 |c::r=>
  if isLetter c.toNat then some (byteOf (plainB c.toNat),1)
  else if c.toNat=92∨c.toNat=q then some ([c],1)
  else if c.toNat=120 then(numL 16 2 r).map fun v=>(byteOf v,3)
  else if c.toNat=117 then(numL 16 4 r).bind fun v=>if Utf8.valid (v:Int) then some ((Utf8.encode (v:Int)).toList,5) else none
  else if c.toNat=85 then(numL 16 8 r).bind fun v=>if Utf8.valid (v:Int) then some ((Utf8.encode (v:Int)).toList,9) else none
  else(numL 8 3 (c::r)).bind fun v=>if v≤255 then some (byteOf v,3) else none
def unq (q:Nat)(l:List UInt8):Option (List UInt8):=
 match l with
 |[]=>some []
 |c::r=>
  if c.toNat≠92 then(unq q r).map (c :: ·)
  else match escL q r with
   |none=>none
   |some (bs,n)=>(unq q (r.drop n)).map (bs++·)
termination_by l.length
decreasing_by
 ·simp
 ·simp;omega
theorem unq_nil (q:Nat):unq q []=some []:=by rw[unq]
theorem unq_plain (q:Nat)(c:UInt8)(r:List UInt8)(h:c.toNat≠92):unq q (c::r)=(unq q r).map (c :: ·):=by rw[unq,if_pos h]
theorem unq_none (q:Nat)(c:UInt8)(r:List UInt8)(h:c.toNat=92)(he:escL q r=none):unq q (c::r)=none:=by rw[unq,if_neg (by omega),he]
theorem unq_some (q:Nat)(c:UInt8)(r:List UInt8)(h:c.toNat=92)(bs:List UInt8)(n:Nat)(he:escL q r=some (bs,n)):unq q (c::r)=(unq q (r.drop n)).map (bs++·):=by rw[unq,if_neg (by omega),he]
def unqR:Option (List UInt8)→List UInt8×Int
 |none=>([],11)
 |some b=>if valid ⟨b.toArray⟩ then(b,0) else([],13)
def unquote (s:ByteArray):List UInt8×Int:=
 if valid s=false then([],4)
 else if literal s 0≠((s.size:Int),0) then([],10)
 else if at' s 0=96 then((s.data.toList.drop 1).take (s.size-2),0)
 else unqR (unq (at' s 0) ((s.data.toList.drop 1).take (s.size-2)))
end Go.Proofs.YtieknenhfeejiaaGreatDoor.U
namespace Go.Proofs.YtieknenhfeejiaaGreatDoor
open _root_.Go.Proofs.Tryz
open Go.RowKit
theorem IsRune_any (n:Int)(w:World)(h1 : -9223372036854775808≤n)(h2:n≤9223372036854775807) :
  Calls prog 99 #[.int .i64 n] w fun e w'=>e=.returned (.bool (Utf8.valid n))∧w=w':=by
 go_enter func99,ntmps99;go_wp2
 all_goals go_ret
 all_goals exact⟨ret_bool (by rw[Bool.eq_iff_iff,U.valid_iff];simp;omega),rfl⟩
theorem strOfNums_enc (l:List Int)(b:ByteArray)(h:b.toList=l.map (fun n=>UInt8.ofNat n.toNat)):strOfNums l=b:=by
 have:(strOfNums l).data.toList=b.data.toList:=(by rw[strOfNums_data,←h,ByteArray.toList_eq]);exact ByteArray.ext (Array.toList_inj.1 this)
theorem conv_new (k:Nat)(C:Array Value)(xs:List Int)(hC:C=(xs.map (Value.int .u8)).toArray)(hk:xs.length=k)(W:World) :
  (convert 63 9 (.slice (some ⟨W.heap.size,0,none⟩) k k)).run prog (W.alloc (.cells C 5))=.ok (.string (strOfNums xs)) (W.alloc (.cells C 5)):=by
 refine run_convert_bytes_arg _ 63 5 underlying63 underlying5 _ 0 k k xs hk ?_ 9 underlying9;intro i hi;rw[Nat.zero_add,World.cell?_alloc_mark,hC];simp[List.getD,hk ▸ hi]
theorem Form_any (n:Int)(w:World)(h1 : -9223372036854775808≤n)(h2:n≤9223372036854775807) :
  Calls prog 100 #[.int .i64 n] w fun e w'=>e=.returned (.string (U.formB n))∧Below w.heap.size w w':=by
 cases hv:Utf8.valid n with
 |false=>
  have H:Hid (Utf8.valid n=false):=hv;clear hv;go_enter func100,ntmps100;go_wp2_with (go_at_call 99;refine(IsRune_any _ _ (by omega) (by omega)).mono ?_;rintro e w' ⟨rfl,rfl⟩;rw[H.out])
  go_ret;exact⟨ret_str (by unfold U.formB;rw[H.out];rfl),Below.refl _ _⟩
 |true=>
  have h0:=(U.valid_iff n).1 hv;have h3:0≤n:=(by omega);have h4:n≤1114111:=(by omega);clear h0;have H:Hid (Utf8.valid n=true):=hv;clear hv;have c1:=fun (W:World) (a:Int)=>conv_new 1 _ [a] rfl rfl W
  have c2:=fun (W:World) (a b:Int)=>conv_new 2 _ [a,b] rfl rfl W
  have c3:=fun (W:World) (a b c:Int)=>conv_new 3 _ [a,b,c] rfl rfl W
  have c4:=fun (W:World) (a b c d:Int)=>conv_new 4 _ [a,b,c,d] rfl rfl W
  simp only[List.map_cons,List.map_nil]at c1 c2 c3 c4;go_enter func100,ntmps100;go_wp2_with (go_at_call 99;refine(IsRune_any _ _ (by omega) (by omega)).mono ?_;rintro e w' ⟨rfl,rfl⟩;rw[H.out])
  all_goals go_ret
  all_goals refine⟨ret_str ?_,(Below.refl _ _).alloc (Nat.le_refl _) _⟩
  all_goals apply strOfNums_enc
  all_goals obtain⟨m,rfl⟩:=Int.eq_ofNat_of_zero_le h3
  all_goals unfold U.formB
  all_goals rw[H.out,if_pos rfl,U.enc_list m H.out]
  ·rw[if_pos (by omega)];rfl
  ·rw[if_neg (by omega),if_pos (by omega)];rfl
  ·rw[if_neg (by omega),if_neg (by omega),if_pos (by omega)];rfl
  ·rw[if_neg (by omega),if_neg (by omega),if_neg (by omega)];rfl
theorem gs_bd (s:ByteArray)(i w:Nat)(hw:1≤w∧w≤4) : -1000000000≤U.gs s i w∧U.gs s i w≤1000000000:=by
 have h0:=U.at_lt s i;have h1:=U.at_lt s (i+1);have h2:=U.at_lt s (i+2);have h3:=U.at_lt s (i+3);rcases (show w=1∨w=2∨w=3∨w=4 by omega) with rfl|rfl|rfl|rfl<;>simp only[U.gs]<;>omega
theorem guess_any (s:ByteArray)(i w:Nat)(W:World)(hs:s.size≤1125899906842624)(hw:1≤w∧w≤4)(hi:i+w≤s.size) :
  Calls prog 133 #[.string s,.int .i64 i,.int .i64 w] W fun e W'=>e=.returned (.int .i64 (U.gs s i w))∧W=W':=by
 have b0:=(s[i]'(by omega)).toNat_lt;have e0:=U.at_eq s i (by omega);rcases (show w=1∨w=2∨w=3∨w=4 by omega) with rfl|rfl|rfl|rfl
 ·have E0:=Lib.hid e0;clear e0
  go_enter func133,ntmps133;go_wp2;go_ret;exact⟨ret_int (by simp only[U.gs];rw[E0.out]),rfl⟩
 ·have b1:=(s[i+1]'(by omega)).toNat_lt
  have e1:=U.at_eq s (i+1) (by omega);have E0:=Lib.hid e0;clear e0;have E1:=Lib.hid e1;clear e1;go_enter func133,ntmps133;go_wp2;refine wp_loop_rounds 2 ?_;rw[rounds_succ];go_wp2;rw[rounds_succ];go_wp2;go_ret;refine⟨ret_int ?_,rfl⟩;simp only[U.gs];rw[E0.out,E1.out]
 ·have b1:=(s[i+1]'(by omega)).toNat_lt
  have e1:=U.at_eq s (i+1) (by omega);have b2:=(s[i+2]'(by omega)).toNat_lt;have e2:=U.at_eq s (i+2) (by omega);have E0:=Lib.hid e0;clear e0;have E1:=Lib.hid e1;clear e1;have E2:=Lib.hid e2;clear e2;go_enter func133,ntmps133;go_wp2;refine wp_loop_rounds 3 ?_;rw[rounds_succ];go_wp2;rw[rounds_succ];go_wp2;rw[rounds_succ];go_wp2;go_ret;refine⟨ret_int ?_,rfl⟩;simp only[U.gs];rw[E0.out,E1.out,E2.out]
 ·have b1:=(s[i+1]'(by omega)).toNat_lt
  have e1:=U.at_eq s (i+1) (by omega);have b2:=(s[i+2]'(by omega)).toNat_lt;have e2:=U.at_eq s (i+2) (by omega);have b3:=(s[i+3]'(by omega)).toNat_lt;have e3:=U.at_eq s (i+3) (by omega);have E0:=Lib.hid e0;clear e0;have E1:=Lib.hid e1;clear e1;have E2:=Lib.hid e2;clear e2;have E3:=Lib.hid e3;clear e3;go_enter func133,ntmps133;go_wp2;refine wp_loop_rounds 4 ?_;rw[rounds_succ];go_wp2;rw[rounds_succ];go_wp2;rw[rounds_succ];go_wp2;rw[rounds_succ];go_wp2;go_ret;refine⟨ret_int ?_,rfl⟩;simp only[U.gs];rw[E0.out,E1.out,E2.out,E3.out]
namespace U
def next (s:ByteArray)(i:Int):Int×Int:=
 if 0≤i∧i<s.size then(if bad s i.toNat then(-1,0) else(run s i.toNat,(Utf8.decode s i.toNat).2)) else(-1,0)
theorem next_out (s:ByteArray)(i:Int)(h:i<0∨s.size≤i):next s i=(-1,0):=by
 unfold next;rw[if_neg (by omega)]
theorem next_bad (s:ByteArray)(i:Nat)(h:bad s i=true):next s i=(-1,0):=by
 unfold next;split<;>simp[h]
theorem next_good (s:ByteArray)(i:Nat)(hi:i<s.size)(h:bad s i=false):next s i=((run s i:Int),((Utf8.decode s i).2:Int)):=by
 unfold next;rw[if_pos (by omega)];simp[h]
end U
theorem ret_next {a b c d:Int}(h1:a=c)(h2:b=d):Ending.returned (.tuple #[.int .i32 a,.int .i64 b])=.returned (.tuple #[.int .i32 c,.int .i64 d]):=by rw[h1,h2]
theorem refNext_in (s:ByteArray)(i:Nat)(W:World)(hs:s.size≤1125899906842624)(hi:i<s.size) :
  Calls prog 96 #[.string s,.int .i64 i] W fun e W'=>e=.returned (.tuple #[.int .i32 (U.next s i).1,.int .i64 (U.next s i).2])∧Below W.heap.size W W':=by
 have hd:decide (s.size≤i)=false:=(by simpa using hi);go_enter func96,ntmps96;go_wp2;go_loopw [6] (fun x wr=>∃k:Nat,1≤k∧k≤5∧x=.int .i64 k∧Hid (∀j,1≤j→j<k→i+j≤s.size→U.hit s i j=false)∧Below W.heap.size W wr) (fun x _=>5-(intOf x).toNat)
 case atStart=>exact⟨1,by omega,by omega,rfl,(fun j h1 h2=>by omega),Below.refl _ _⟩
 case round=>
  obtain⟨k,hk1,hk5,rfl,hno,hbel⟩:=hrel;by_cases hk:k≤4∧i+k≤s.size
  ·obtain⟨hk4,hik⟩:=hk
   have hg:=gs_bd s i k ⟨hk1,hk4⟩;cases c1:(((U.formB (U.gs s i k)).size:Int)==(k:Int)) with
   |false=>
    have hh:U.hit s i k=false:=by
     unfold U.hit;have:((U.formB (U.gs s i k)).size==k)=false:=(by rw[bf]at c1 ⊢;omega);rw[this];rfl
    have G:Hid (∀j,1≤j→j<k+1→i+j≤s.size→U.hit s i j=false):=fun j h1 h2 h3=>by
     by_cases e:j=k
     ·rw[e];exact hh
     ·exact hno.out j h1 (by omega) h3
    clear hh;go_wp2_with (first
     |(go_at_call 133;refine(guess_any s i k _ hs ⟨hk1,hk4⟩ hik).mono ?_;rintro e w' ⟨rfl,rfl⟩)
     |(go_at_call 100;refine(Form_any _ _ (by omega) (by omega)).mono ?_;rintro e w1 ⟨rfl,hb1⟩))
    go_roundw
    case rel=>exact⟨k+1,by omega,by omega,by go_num,G,hbel.trans ((show Below _ _ _ by assumption).mono hbel.size)⟩
    case measure=>simp[intOf];omega
   |true=>
    cases c2:((s.extract i (i+k)).toList==(U.formB (U.gs s i k)).toList) with
    |false=>
     have hh:U.hit s i k=false:=by
      unfold U.hit;rw[c2,Bool.and_false]
     have G:Hid (∀j,1≤j→j<k+1→i+j≤s.size→U.hit s i j=false):=fun j h1 h2 h3=>by
      by_cases e:j=k
      ·rw[e];exact hh
      ·exact hno.out j h1 (by omega) h3
     clear hh;go_wp2_with (first
      |(go_at_call 133;refine(guess_any s i k _ hs ⟨hk1,hk4⟩ hik).mono ?_;rintro e w' ⟨rfl,rfl⟩)
      |(go_at_call 100;refine(Form_any _ _ (by omega) (by omega)).mono ?_;rintro e w1 ⟨rfl,hb1⟩))
     go_roundw
     case rel=>exact⟨k+1,by omega,by omega,by go_num,G,hbel.trans ((show Below _ _ _ by assumption).mono hbel.size)⟩
     case measure=>simp[intOf];omega
    |true=>
     have hh:U.hit s i k=true:=by
      unfold U.hit;have:((U.formB (U.gs s i k)).size==k)=true:=(by rw[beq_iff_eq]at c1 ⊢;omega);rw[this,c2];rfl
     obtain⟨d0,d1,d2⟩:=U.hit_dec s i k ⟨hk1,hk4⟩ hik hh;have G:Hid (U.next s i=(U.gs s i k,(k:Int))):=by
      show _=_
      rw[U.next_good s i hi d2];unfold U.run;rw[d1];simp only[Int.toNat_of_nonneg d0]
     clear hh d1 d2;go_wp2_with (first
      |(go_at_call 133;refine(guess_any s i k _ hs ⟨hk1,hk4⟩ hik).mono ?_;rintro e w' ⟨rfl,rfl⟩)
      |(go_at_call 100;refine(Form_any _ _ (by omega) (by omega)).mono ?_;rintro e w1 ⟨rfl,hb1⟩))
     go_ret2;exact⟨ret_next (by rw[G.out]) (by rw[G.out]),hbel.trans ((show Below _ _ _ by assumption).mono hbel.size)⟩
  ·have G:Hid (U.next s i=(-1,0)):=U.next_bad s i (U.no_hit s i hi fun j h1 h2 h3=>hno.out j h1 (by omega) h3)
   by_cases hk4:k≤4
   ·have:¬ (i+k≤s.size):=fun h=>hk ⟨hk4,h⟩
    clear hk;go_wp2;go_ret2;exact⟨ret_next (by rw[G.out]) (by rw[G.out]),hbel⟩
   ·clear hk
    go_wp2;go_ret2;exact⟨ret_next (by rw[G.out]) (by rw[G.out]),hbel⟩
theorem refNext_any (s:ByteArray)(i:Int)(W:World)(hs:s.size≤1125899906842624) :
  Calls prog 96 #[.string s,.int .i64 i] W fun e W'=>e=.returned (.tuple #[.int .i32 (U.next s i).1,.int .i64 (U.next s i).2])∧Below W.heap.size W W':=by
 by_cases h0:i<0
 ·have G:Hid (U.next s i=(-1,0)):=U.next_out s i (Or.inl h0)
  go_enter func96,ntmps96;go_wp2;go_ret2;exact⟨ret_next (by rw[G.out]) (by rw[G.out]),Below.refl _ _⟩
 by_cases h1:(s.size:Int)≤i
 ·have G:Hid (U.next s i=(-1,0)):=U.next_out s i (Or.inr h1)
  go_enter func96,ntmps96;go_wp2;go_ret2;exact⟨ret_next (by rw[G.out]) (by rw[G.out]),Below.refl _ _⟩
 obtain⟨n,rfl⟩:=Int.eq_ofNat_of_zero_le (show 0≤i by omega);exact refNext_in s n W hs (by omega)
theorem refValid_any (s:ByteArray)(W:World)(hs:s.size≤1125899906842624) :
  Calls prog 65 #[.string s] W fun e W'=>e=.returned (.bool (U.valid s))∧Below W.heap.size W W':=by
 go_enter func65,ntmps65;go_wp2;go_loopw [3] (fun x wr=>∃p:Nat,p≤s.size∧x=.int .i64 p∧Hid (U.vfrom s p=U.valid s)∧Below W.heap.size W wr) (fun x _=>s.size-(intOf x).toNat)
 case atStart=>exact⟨0,by omega,rfl,rfl,Below.refl _ _⟩
 case round=>
  obtain⟨p,hp,rfl,hv,hbel⟩:=hrel;by_cases hlt:p<s.size
  ·cases hb:U.bad s p with
   |true=>
    have N:Hid (U.next s p=(-1,0)):=U.next_bad s p hb;have G:Hid (U.valid s=false):=(by show _=_;rw[←hv.out,U.vfrom_bad s p hlt hb]);clear hb;go_wp2_with (go_at_call 96;refine(refNext_any s p _ hs).mono ?_;rintro e w1 ⟨rfl,hb1⟩;rw[N.out])
    go_ret;exact⟨ret_bool G.out.symm,hbel.trans ((show Below _ _ _ by assumption).mono hbel.size)⟩
   |false=>
    have N:Hid (U.next s p=((U.run s p:Int),((Utf8.decode s p).2:Int))):=U.next_good s p hlt hb;have G:Hid (U.vfrom s (p+(Utf8.decode s p).2)=U.valid s):=(by show _=_;rw[←hv.out,U.vfrom_step s p hlt hb]);clear hb;have hle:=U.dec_le s p hlt;have hdp:=U.dec_pos s p;have hne:(((Utf8.decode s p).2:Int)==0)=false:=(by rw[bf];omega);go_wp2_with (go_at_call 96;refine(refNext_any s p _ hs).mono ?_;rintro e w1 ⟨rfl,hb1⟩;rw[N.out])
    go_roundw
    case rel=>exact⟨p+(Utf8.decode s p).2,hle,by go_num,G,hbel.trans ((show Below _ _ _ by assumption).mono hbel.size)⟩
    case measure=>simp[intOf];omega
  ·have G:Hid (U.valid s=true):=by show _=_;rw[←hv.out,U.vfrom_end s p hlt]
   go_wp2;go_ret;exact⟨ret_bool G.out.symm,hbel⟩
namespace U
theorem at_out (s:ByteArray)(k:Nat)(h:s.size≤k):at' s k=0:=by
 unfold at';simp only[ByteArray.get!,Array.getElem!_eq_getD,Array.getD];rw[dif_neg (show ¬ k<s.data.size from Nat.not_lt.2 h)];rfl
theorem at_ext (s:ByteArray)(a b k:Nat)(hb:b≤s.size)(hk:a+k<b):at' (s.extract a b) k=at' s (a+k):=by
 have hz:(s.extract a b).size=b-a:=(by rw[ByteArray.size_extract];omega);have h1:=Lib.extract_data s a b;have h2:(s.extract a b).data.toList[k]?=s.data.toList[a+k]?:=by
  rw[h1,List.getElem?_take,if_pos (by omega),List.getElem?_drop]
 rw[data_get _ _ (by omega),data_get _ _ (by omega)]at h2;unfold at';rw[Option.some.inj h2]
end U
def U.numQ (base k:Nat)(l:List UInt8):Option Nat:=if l.length<k then none else U.numP base (l.take k) 0
def digR:Option Nat→Int×Bool
 |some v=>(v,true)
 |none=>(0,false)
theorem ret_dig {a c:Int}{b d:Bool}(h1:a=c)(h2:b=d):Ending.returned (.tuple #[.int .i32 a,.bool b])=.returned (.tuple #[.int .i32 c,.bool d]):=by rw[h1,h2]
theorem digit_any (c:Nat)(w:World)(h:c<256) :
  Calls prog 121 #[.int .u8 c] w fun e w'=>e=.returned (.int .i32 (U.dig c))∧w=w':=by
 by_cases h1:48≤c∧c≤57
 ·have G:Hd (U.dig c=(c:Int)-48):=hd <|by unfold U.dig;rw[if_pos h1]
  obtain⟨a1,a2⟩:=h1;go_enter func121,ntmps121;go_wp2;go_ret;exact⟨ret_int G.o.symm,rfl⟩
 by_cases h2:97≤c∧c≤102
 ·have G:Hd (U.dig c=(c:Int)-97+10):=hd <|by unfold U.dig;rw[if_neg h1,if_pos h2];omega
  obtain⟨a1,a2⟩:=h2;go_enter func121,ntmps121;go_wp2;go_ret;exact⟨ret_int G.o.symm,rfl⟩
 by_cases h3:65≤c∧c≤70
 ·have G:Hd (U.dig c=(c:Int)-65+10):=hd <|by unfold U.dig;rw[if_neg h1,if_neg h2,if_pos h3];omega
  obtain⟨a1,a2⟩:=h3;go_enter func121,ntmps121;go_wp2;go_ret;exact⟨ret_int G.o.symm,rfl⟩
 ·have G:Hd (U.dig c = -1):=hd <|by unfold U.dig;rw[if_neg h1,if_neg h2,if_neg h3]
  go_enter func121,ntmps121;go_wp2
  all_goals first|(exfalso;omega)|(go_ret;exact⟨ret_int G.o.symm,rfl⟩)
theorem digits8 (s:ByteArray)(n:Nat)(z:Int)(hz:z=n)(w:World)(hs:s.size≤1125899906842624)(hn:n≤8) :
  Calls prog 88 #[.string s,.int .i64 z,.int .i32 8] w fun e w'=>e=.returned (.tuple #[.int .i32 (digR (U.numQ 8 n s.data.toList)).1,.bool (digR (U.numQ 8 n s.data.toList)).2])∧Below w.heap.size w w':=by
 subst hz;by_cases hl:s.size<n
 ·have G:Hd (U.numQ 8 n s.data.toList=none):=hd <|by unfold U.numQ;rw[if_pos (by rw[←Lib.size_eq];exact hl)]
  go_enter func88,ntmps88;go_wp2;go_ret2;exact⟨ret_dig (by rw[G.o];rfl) (by rw[G.o];rfl),Below.refl _ _⟩
 have G0:Hd (U.numQ 8 n s.data.toList=U.numP 8 (s.data.toList.take n) 0):=hd <|by unfold U.numQ;rw[if_neg (by rw[←Lib.size_eq];exact hl)]
 have hzl:(s.data.toList.take n).length=n:=(by rw[List.length_take,←Lib.size_eq];omega);have HL:=hd hzl;clear hzl;go_enter func88,ntmps88;go_wp2_with (refine wpList_bytes_of _ 9 63 5 _ underlying9 underlying63 underlying5 rfl _ rfl rfl ?_)
 intro cap w1 hb1 hz1 hcell;have hmin:min n s.size=n:=(by omega);rw[hmin]at hcell ⊢;clear hmin;have HC:=hd hcell;clear hcell;go_wp2
 go_loop [8,21] (fun x y=>∃k v:Nat,k≤n∧y=.int .i64 k∧x=.int .i32 v∧v≤134217743∧Hd (U.numP 8 ((s.data.toList.take n).drop k) v=U.numP 8 (s.data.toList.take n) 0)) (fun _ y=>n-(intOf y).toNat)
 case atStart=>exact⟨0,0,Nat.zero_le _,rfl,rfl,by omega,hd rfl⟩
 case round=>
  obtain⟨k,v,hk,rfl,rfl,hv,hr⟩:=hrel;by_cases hlt:k<n
  ·have c1:=HC.o k hlt
   rw[U.at_ext s 0 n k (by omega) (by omega),Nat.zero_add]at c1;obtain⟨hk',hat⟩:=list_at s k (by omega);have hdr:(s.data.toList.take n).drop k=s.data.toList[k]'hk'::(s.data.toList.take n).drop (k+1):=by
    rw[List.drop_eq_getElem_cons (by rw[HL.o];exact hlt)];simp
   have hcb:=U.at_lt s k;have hdb:=U.dig_bd (U.at' s k);rw[hdr]at hr;have HR:∀_:Unit,U.numP 8 (s.data.toList[k]'hk'::(s.data.toList.take n).drop (k+1)) v=U.numP 8 (s.data.toList.take n) 0:=hr
   clear hdr hr;by_cases h1:0≤U.dig (U.at' s k)∧U.dig (U.at' s k)<8∧v≤8388607
   ·have G:Hd (U.numP 8 ((s.data.toList.take n).drop (k+1)) (v*8+(U.dig (U.at' s k)).toNat)=U.numP 8 (s.data.toList.take n) 0):=hd <|by
     rw[←HR (),U.numP,hat,if_pos ⟨h1.1,by simpa using h1.2.1,h1.2.2⟩]
    obtain⟨d1,d2,d3⟩:=h1;have hcv:0≤(v:Int)∧(v:Int)≤8388607:=(by omega);obtain⟨v1,v2⟩:=hcv;clear HR hat;go_wp2_with (go_at_call 121;refine(digit_any _ _ (by omega)).mono ?_;rintro e w' ⟨rfl,rfl⟩)
    go_round
    case rel=>exact⟨k+1,v*8+(U.dig (U.at' s k)).toNat,by omega,by go_num,by rw[show (((v*8+(U.dig (U.at' s k)).toNat:Nat):Int))=(v:Int)*8+U.dig (U.at' s k) by omega],by omega,G⟩
    case measure=>simp[intOf];omega
   ·have G:Hd (U.numQ 8 n s.data.toList=none):=hd <|by
     rw[G0.o,←HR (),U.numP,hat,if_neg (by intro h;exact h1 ⟨h.1,by simpa using h.2.1,h.2.2⟩)]
    clear HR hat;by_cases d1:0≤U.dig (U.at' s k)
    ·by_cases d2:U.dig (U.at' s k)<8
     ·have v2:¬ (v:Int)≤8388607:=by intro h;exact h1 ⟨d1,d2,by omega⟩
      clear h1;go_wp2_with (go_at_call 121;refine(digit_any _ _ (by omega)).mono ?_;rintro e w' ⟨rfl,rfl⟩)
      go_ret2;exact⟨ret_dig (by rw[G.o];rfl) (by rw[G.o];rfl),hb1⟩
     ·clear h1
      go_wp2_with (go_at_call 121;refine(digit_any _ _ (by omega)).mono ?_;rintro e w' ⟨rfl,rfl⟩)
      go_ret2;exact⟨ret_dig (by rw[G.o];rfl) (by rw[G.o];rfl),hb1⟩
    ·clear h1
     go_wp2_with (go_at_call 121;refine(digit_any _ _ (by omega)).mono ?_;rintro e w' ⟨rfl,rfl⟩)
     go_ret2;exact⟨ret_dig (by rw[G.o];rfl) (by rw[G.o];rfl),hb1⟩
  ·have G:Hd (U.numQ 8 n s.data.toList=some v):=hd <|by
    rw[G0.o,←hr.o,List.drop_of_length_le (by rw[HL.o];omega),U.numP]
   go_wp2;go_ret2;exact⟨ret_dig (by rw[G.o];rfl) (by rw[G.o];rfl),hb1⟩
theorem digits16 (s:ByteArray)(n:Nat)(z:Int)(hz:z=n)(w:World)(hs:s.size≤1125899906842624)(hn:n≤8) :
  Calls prog 88 #[.string s,.int .i64 z,.int .i32 16] w fun e w'=>e=.returned (.tuple #[.int .i32 (digR (U.numQ 16 n s.data.toList)).1,.bool (digR (U.numQ 16 n s.data.toList)).2])∧Below w.heap.size w w':=by
 subst hz;by_cases hl:s.size<n
 ·have G:Hd (U.numQ 16 n s.data.toList=none):=hd <|by unfold U.numQ;rw[if_pos (by rw[←Lib.size_eq];exact hl)]
  go_enter func88,ntmps88;go_wp2;go_ret2;exact⟨ret_dig (by rw[G.o];rfl) (by rw[G.o];rfl),Below.refl _ _⟩
 have G0:Hd (U.numQ 16 n s.data.toList=U.numP 16 (s.data.toList.take n) 0):=hd <|by unfold U.numQ;rw[if_neg (by rw[←Lib.size_eq];exact hl)]
 have hzl:(s.data.toList.take n).length=n:=(by rw[List.length_take,←Lib.size_eq];omega);have HL:=hd hzl;clear hzl;go_enter func88,ntmps88;go_wp2_with (refine wpList_bytes_of _ 9 63 5 _ underlying9 underlying63 underlying5 rfl _ rfl rfl ?_)
 intro cap w1 hb1 hz1 hcell;have hmin:min n s.size=n:=(by omega);rw[hmin]at hcell ⊢;clear hmin;have HC:=hd hcell;clear hcell;go_wp2
 go_loop [8,21] (fun x y=>∃k v:Nat,k≤n∧y=.int .i64 k∧x=.int .i32 v∧v≤134217743∧Hd (U.numP 16 ((s.data.toList.take n).drop k) v=U.numP 16 (s.data.toList.take n) 0)) (fun _ y=>n-(intOf y).toNat)
 case atStart=>exact⟨0,0,Nat.zero_le _,rfl,rfl,by omega,hd rfl⟩
 case round=>
  obtain⟨k,v,hk,rfl,rfl,hv,hr⟩:=hrel;by_cases hlt:k<n
  ·have c1:=HC.o k hlt
   rw[U.at_ext s 0 n k (by omega) (by omega),Nat.zero_add]at c1;obtain⟨hk',hat⟩:=list_at s k (by omega);have hdr:(s.data.toList.take n).drop k=s.data.toList[k]'hk'::(s.data.toList.take n).drop (k+1):=by
    rw[List.drop_eq_getElem_cons (by rw[HL.o];exact hlt)];simp
   have hcb:=U.at_lt s k;have hdb:=U.dig_bd (U.at' s k);rw[hdr]at hr;have HR:∀_:Unit,U.numP 16 (s.data.toList[k]'hk'::(s.data.toList.take n).drop (k+1)) v=U.numP 16 (s.data.toList.take n) 0:=hr
   clear hdr hr;by_cases h1:0≤U.dig (U.at' s k)∧U.dig (U.at' s k)<16∧v≤8388607
   ·have G:Hd (U.numP 16 ((s.data.toList.take n).drop (k+1)) (v*16+(U.dig (U.at' s k)).toNat)=U.numP 16 (s.data.toList.take n) 0):=hd <|by
     rw[←HR (),U.numP,hat,if_pos ⟨h1.1,by simpa using h1.2.1,h1.2.2⟩]
    obtain⟨d1,d2,d3⟩:=h1;have hcv:0≤(v:Int)∧(v:Int)≤8388607:=(by omega);obtain⟨v1,v2⟩:=hcv;clear HR hat;go_wp2_with (go_at_call 121;refine(digit_any _ _ (by omega)).mono ?_;rintro e w' ⟨rfl,rfl⟩)
    go_round
    case rel=>exact⟨k+1,v*16+(U.dig (U.at' s k)).toNat,by omega,by go_num,by rw[show (((v*16+(U.dig (U.at' s k)).toNat:Nat):Int))=(v:Int)*16+U.dig (U.at' s k) by omega],by omega,G⟩
    case measure=>simp[intOf];omega
   ·have G:Hd (U.numQ 16 n s.data.toList=none):=hd <|by
     rw[G0.o,←HR (),U.numP,hat,if_neg (by intro h;exact h1 ⟨h.1,by simpa using h.2.1,h.2.2⟩)]
    clear HR hat;by_cases d1:0≤U.dig (U.at' s k)
    ·by_cases d2:U.dig (U.at' s k)<16
     ·have v2:¬ (v:Int)≤8388607:=by intro h;exact h1 ⟨d1,d2,by omega⟩
      clear h1;go_wp2_with (go_at_call 121;refine(digit_any _ _ (by omega)).mono ?_;rintro e w' ⟨rfl,rfl⟩)
      go_ret2;exact⟨ret_dig (by rw[G.o];rfl) (by rw[G.o];rfl),hb1⟩
     ·clear h1
      go_wp2_with (go_at_call 121;refine(digit_any _ _ (by omega)).mono ?_;rintro e w' ⟨rfl,rfl⟩)
      go_ret2;exact⟨ret_dig (by rw[G.o];rfl) (by rw[G.o];rfl),hb1⟩
    ·clear h1
     go_wp2_with (go_at_call 121;refine(digit_any _ _ (by omega)).mono ?_;rintro e w' ⟨rfl,rfl⟩)
     go_ret2;exact⟨ret_dig (by rw[G.o];rfl) (by rw[G.o];rfl),hb1⟩
  ·have G:Hd (U.numQ 16 n s.data.toList=some v):=hd <|by
    rw[G0.o,←hr.o,List.drop_of_length_le (by rw[HL.o];omega),U.numP]
   go_wp2;go_ret2;exact⟨ret_dig (by rw[G.o];rfl) (by rw[G.o];rfl),hb1⟩
namespace U
theorem numQ_none (base k:Nat)(l:List UInt8)(hb:2≤base)(h:numQ base k l=none):numL base k l=none∨∃r,numL base k l=some r∧1114111<r:=by
 unfold numQ at h;unfold numL;by_cases hl:l.length<k
 ·rw[if_pos hl];exact .inl rfl
 ·rw[if_neg hl]at h ⊢
  exact numP_none base hb _ _ h
theorem numQ_some (base k:Nat)(l:List UInt8)(r:Nat)(h:numQ base k l=some r):numL base k l=some r:=by
 unfold numQ at h;unfold numL;by_cases hl:l.length<k
 ·rw[if_pos hl]at h;cases h
 ·rw[if_neg hl]at h ⊢
  exact numP_some base _ _ _ h
theorem numL_lt (base k:Nat)(l:List UInt8)(r:Nat)(hb:1≤base)(h:numL base k l=some r):r<base^k:=by
 unfold numL at h;by_cases hl:l.length<k
 ·rw[if_pos hl]at h;cases h
 ·rw[if_neg hl]at h
  have:=numF_lt base hb _ _ _ h;rw[List.length_take,Nat.min_eq_left (by omega)]at this;omega
theorem numQ_eq (base k:Nat)(l:List UInt8)(hb:2≤base)(hk:base^k≤1114111):numQ base k l=numL base k l:=by
 cases h:numQ base k l with
 |some r=>exact(numQ_some base k l r h).symm
 |none=>
  rcases numQ_none base k l hb h with h1|⟨r,h1,h2⟩
  ·exact h1.symm
  ·have:=numL_lt base k l r (by omega) h1;omega
theorem valid_big (r:Nat)(h:1114111<r):Utf8.valid (r:Int)=false:=by
 cases hv:Utf8.valid (r:Int) with
 |false=>rfl
 |true=>have:=(valid_iff _).1 hv;omega
def runeOf (o:Option Nat)(k:Nat):Option (List UInt8×Nat):=o.bind fun v=>if Utf8.valid (v:Int) then some ((Utf8.encode (v:Int)).toList,k) else none
theorem runeOf_none (k:Nat):runeOf none k=none:=rfl
theorem runeOf_bad (v k:Nat)(h:Utf8.valid (v:Int)=false):runeOf (some v) k=none:=by unfold runeOf;rw[Option.bind_some,h];rfl
theorem runeOf_good (v k:Nat)(h:Utf8.valid (v:Int)=true):runeOf (some v) k=some ((Utf8.encode (v:Int)).toList,k):=by unfold runeOf;rw[Option.bind_some,h];rfl
theorem rune8 (m:Nat)(l:List UInt8)(k:Nat):runeOf (numL 16 m l) k=runeOf (numQ 16 m l) k:=by
 cases h:numQ 16 m l with
 |some r=>rw[numQ_some 16 m l r h]
 |none=>
  rcases numQ_none 16 m l (by omega) h with h1|⟨r,h1,h2⟩
  ·rw[h1]
  ·rw[h1,runeOf_bad r k (valid_big r h2),runeOf_none]
theorem numQ_lt (base k:Nat)(l:List UInt8)(r:Nat)(hb:1≤base)(h:numQ base k l=some r):r<base^k:=numL_lt base k l r hb (numQ_some base k l r h)
end U
theorem list_head (s:ByteArray)(h:0<s.size):∃c:UInt8,c.toNat=U.at' s 0∧s.data.toList=c::(s.extract 1 s.size).data.toList:=by
 obtain⟨h',e⟩:=list_at s 0 h;refine⟨_,e,?_⟩;rw[Lib.extract_data];have h1:s.data.toList.length=s.size:=(Lib.size_eq s).symm;have h2:=List.drop_eq_getElem_cons h';rw[List.drop_zero]at h2;rw[←h1,show s.data.toList.length-1=(s.data.toList.drop 1).length by simp,List.take_length];exact h2
theorem grown_trans {a b c:World}{row:Option Nat}(h:a.grownBy b row)(k:b.grownBy c row):a.grownBy c row:=
 ⟨k.os.trans h.os,k.tape.trans h.tape,k.output.trans h.output,Nat.le_trans h.size k.size,fun i hi hne=>(k.block i (Nat.lt_of_lt_of_le hi h.size) hne).trans (h.block i hi hne)⟩
theorem grown_of_below {a b:World}(h:Below a.heap.size a b)(row:Option Nat):a.grownBy b row:=⟨h.os,h.tape,h.output,h.size,fun i hi _=>h.block i hi⟩
def EscPost (B:Nat)(e:TypeId)(w:World)(v:Value)(n:Nat)(xs:List Value)(r:Option (List UInt8×Nat))(en:Ending)(w':World):Prop:=
 match r with
 |none=>en=.returned (.tuple #[v,.int .i64 0])∧Below w.heap.size w w'
 |some (bs,k)=>∃v',en=.returned (.tuple #[v',.int .i64 (k:Int)])∧w'.ownsRow B e 1 v' (n+bs.length) (xs++cellsB bs)∧w.grownBy w' v.ownBlock
theorem numP_le (base:Nat)(hb:base≤16):∀(l:List UInt8) (v r:Nat),v≤134217743→U.numP base l v=some r→r≤134217743
 |[],v,r,hv,h=>by simp[U.numP]at h;omega
 |c::l,v,r,hv,h=>by
  simp only[U.numP]at h;split at h
  ·rename_i hc
   refine numP_le base hb l _ _ ?_ h;have:=U.dig_bd c.toNat;have h2:=Nat.mul_le_mul hc.2.2 hb;omega
  ·cases h
theorem numQ_i32 {base k:Nat}{l:List UInt8}{r:Nat}(h:U.numQ base k l=some r)(hb:base≤16:=by decide):r≤2147483647:=by
 unfold U.numQ at h;split at h
 ·cases h
 ·have:=numP_le base hb _ _ _ (by omega) h;omega
theorem uplain_any (c:Nat)(z:Int)(hz:z=c)(w:World)(h:c<256) :
  Calls prog 87 #[.int .u8 z] w fun e w'=>e=.returned (.int .u8 (U.plainB c))∧w=w':=by
 subst hz;by_cases hh:c=97∨c=98∨c=116∨c=110∨c=118∨c=102
 ·rcases hh with rfl|rfl|rfl|rfl|rfl|rfl
  all_goals
   go_enter func87,ntmps87;go_wp2;go_ret;exact⟨rfl,rfl⟩
 ·have G:Hd (U.plainB c=13):=hd <|by unfold U.plainB;(repeat' rw[if_neg (by omega)])
  have b1:((c:Int)==97)=false:=(by rw[bf];omega);have b2:((c:Int)==98)=false:=(by rw[bf];omega);have b3:((c:Int)==116)=false:=(by rw[bf];omega);have b4:((c:Int)==110)=false:=(by rw[bf];omega);have b5:((c:Int)==118)=false:=(by rw[bf];omega);have b6:((c:Int)==102)=false:=(by rw[bf];omega);clear hh;go_enter func87,ntmps87;go_wp2;go_ret;exact⟨ret_int (by rw[G.o];rfl),rfl⟩
theorem esc_letter (k:Nat)(hk:k=97∨k=98∨k=116∨k=110∨k=118∨k=102∨k=114)(q:Nat)(hq:q=34∨q=39)(s:ByteArray)(hs:s.size≤1125899906842624)(B:Nat)(v:Value)(n:Nat)(xs:List Value)(w:World)(hown:w.ownsRow B 5 1 v n xs)(hB:B≤w.heap.size)(hn:n≤140737488351232)(h0:0<s.size)(hc:U.at' s 0=k) :
  Calls prog 54 #[v,.string s,.int .u8 q] w (EscPost B 5 w v n xs (U.escL q s.data.toList)):=by
 obtain⟨c,ec,el⟩:=list_head s h0;have G:Hd (U.escL q s.data.toList=some (U.byteOf (U.plainB k),1)):=hd <|by
  rw[el,U.escL,if_pos]
  ·rw[ec,hc]
  ·rw[ec,hc];rcases hk with rfl|rfl|rfl|rfl|rfl|rfl|rfl<;>rfl
 have e0:=U.at_eq s 0 h0;have hne:s.toList.isEmpty=false:=(by rw[ByteArray.toList_eq,el];rfl);have hq':((s[0]'h0).toNat:Int)=k:=(by rw[←e0,hc]);clear e0 ec el hq;rcases hk with rfl|rfl|rfl|rfl|rfl|rfl|rfl
 all_goals
  go_enter func54,ntmps54;go_wp2_with (first
   |(go_at_call 87;refine(uplain_any _ _ rfl _ (by decide)).mono ?_;rintro e w' ⟨rfl,rfl⟩)
   |(at_builtin;refine wpList_app_lit 63 5 (.int .u8 0) 1 1 underlying63 info_u8 rfl (by decide) rfl _ _ rfl B v n xs w #[_] 1 rfl rfl hown rfl ?_ ?_ ?_ hB ?_))
  any_goals (first|omega|(simp[Value.oneCell'];done))
  intro v' w' ho hg;go_wp2;go_ret2;unfold EscPost;rw[G.o];exact⟨v',rfl,ho,hg⟩
theorem esc_nil (q:Nat)(hq:q=34∨q=39)(s:ByteArray)(hs:s.size≤1125899906842624)(B:Nat)(v:Value)(n:Nat)(xs:List Value)(w:World)(hown:w.ownsRow B 5 1 v n xs)(hB:B≤w.heap.size)(hn:n≤140737488351232)(h0:s.size=0) :
  Calls prog 54 #[v,.string s,.int .u8 q] w (EscPost B 5 w v n xs (U.escL q s.data.toList)):=by
 have el:s.data.toList=[]:=List.eq_nil_of_length_eq_zero (by rw[←Lib.size_eq];exact h0);have hne:s.toList.isEmpty=true:=(by rw[ByteArray.toList_eq,el];rfl);have G:Hd (U.escL q s.data.toList=none):=hd <|by rw[el];rfl
 clear el hq;go_enter func54,ntmps54;go_wp2;go_ret2;unfold EscPost;rw[G.o];exact⟨rfl,Below.refl _ _⟩
theorem esc_back (q:Nat)(hq:q=34∨q=39)(s:ByteArray)(hs:s.size≤1125899906842624)(B:Nat)(v:Value)(n:Nat)(xs:List Value)(w:World)(hown:w.ownsRow B 5 1 v n xs)(hB:B≤w.heap.size)(hn:n≤140737488351232)(h0:0<s.size)(hc:U.at' s 0=92) :
  Calls prog 54 #[v,.string s,.int .u8 q] w (EscPost B 5 w v n xs (U.escL q s.data.toList)):=by
 obtain⟨c,ec,el⟩:=list_head s h0;have e0:=U.at_eq s 0 h0;have hne:s.toList.isEmpty=false:=(by rw[ByteArray.toList_eq,el];rfl);have G:Hd (U.escL q s.data.toList=some ([c],1)):=hd <|by
  rw[el,U.escL,ec,hc,if_neg (by decide),if_pos (.inl rfl)]
 have hcc:Hd (cellsB [c]=[.int .u8 92]):=hd <|by simp only[cellsB,List.map_cons,List.map_nil];rw[ec,hc];rfl
 have hq':((s[0]'h0).toNat:Int)=92:=(by rw[←e0,hc];rfl);clear e0 ec el hq;go_enter func54,ntmps54;go_wp2_with (at_builtin;refine wpList_app_lit 63 5 (.int .u8 0) 1 1 underlying63 info_u8 rfl (by decide) rfl _ _ rfl B v n xs w #[_] 1 rfl rfl hown rfl ?_ ?_ ?_ hB ?_)
 any_goals (first|omega|(simp[Value.oneCell'];done))
 intro v' w' ho hg;go_wp2;go_ret2;unfold EscPost;rw[G.o];exact⟨v',rfl,by rw[hcc.o];exact ho,hg⟩
theorem esc_quote (q:Nat)(hq:q=34∨q=39)(s:ByteArray)(hs:s.size≤1125899906842624)(B:Nat)(v:Value)(n:Nat)(xs:List Value)(w:World)(hown:w.ownsRow B 5 1 v n xs)(hB:B≤w.heap.size)(hn:n≤140737488351232)(h0:0<s.size)(hc:U.at' s 0=q) :
  Calls prog 54 #[v,.string s,.int .u8 q] w (EscPost B 5 w v n xs (U.escL q s.data.toList)):=by
 obtain⟨c,ec,el⟩:=list_head s h0;have e0:=U.at_eq s 0 h0;have hne:s.toList.isEmpty=false:=(by rw[ByteArray.toList_eq,el];rfl);have G:Hd (U.escL q s.data.toList=some ([c],1)):=hd <|by
  rw[el,U.escL,ec,hc];rcases hq with rfl|rfl<;>rfl
 have hcc:Hd (cellsB [c]=[.int .u8 (q:Int)]):=hd <|by simp only[cellsB,List.map_cons,List.map_nil];rw[ec,hc]
 have hq':((s[0]'h0).toNat:Int)=(q:Int):=(by rw[←e0,hc]);clear e0 ec el hc;rcases hq with rfl|rfl
 all_goals
  go_enter func54,ntmps54;go_wp2_with (at_builtin;refine wpList_app_lit 63 5 (.int .u8 0) 1 1 underlying63 info_u8 rfl (by decide) rfl _ _ rfl B v n xs w #[_] 1 rfl rfl hown rfl ?_ ?_ ?_ hB ?_)
  any_goals (first|omega|(simp[Value.oneCell'];done))
  intro v' w' ho hg;go_wp2;go_ret2;unfold EscPost;rw[G.o];exact⟨v',rfl,by rw[hcc.o];exact ho,hg⟩
theorem esc_x (q:Nat)(hq:q=34∨q=39)(s:ByteArray)(hs:s.size≤1125899906842624)(B:Nat)(v:Value)(n:Nat)(xs:List Value)(w:World)(hown:w.ownsRow B 5 1 v n xs)(hB:B≤w.heap.size)(hn:n≤140737488351232)(h0:0<s.size)(hc:U.at' s 0=120) :
  Calls prog 54 #[v,.string s,.int .u8 q] w (EscPost B 5 w v n xs (U.escL q s.data.toList)):=by
 obtain⟨c,ec,el⟩:=list_head s h0;have e0:=U.at_eq s 0 h0;have hne:s.toList.isEmpty=false:=(by rw[ByteArray.toList_eq,el];rfl);have hG:U.escL q s.data.toList=(U.numQ 16 2 (s.extract 1 s.size).data.toList).map fun v=>(U.byteOf v,3):=by
  rw[el,U.escL,ec,hc,if_neg (by decide),if_neg (by omega),if_pos rfl,U.numQ_eq 16 2 _ (by omega) (by decide)]
 have hsz:(s.extract 1 s.size).size≤1125899906842624:=(by rw[ByteArray.size_extract];omega);have f1:((120:Int)==(q:Int))=false:=(by rw[bf];omega);have f2:((117:Int)==(q:Int))=false:=(by rw[bf];omega);have f3:((85:Int)==(q:Int))=false:=(by rw[bf];omega);have hq':((s[0]'h0).toNat:Int)=120:=(by rw[←e0,hc];rfl);cases hn2:U.numQ 16 2 (s.extract 1 s.size).data.toList with
 |none=>
  have N:=hd hn2;have G:Hd (U.escL q s.data.toList=none):=hd <|by rw[hG,hn2];rfl
  clear hG hn2 e0 ec el hq hc;go_enter func54,ntmps54;go_wp2_with (go_at_call 88;refine(digits16 _ 2 _ rfl _ hsz (by decide)).mono ?_;rintro e w1 ⟨rfl,hb1⟩;rw[N.o];dsimp only[digR])
  go_ret2;unfold EscPost;rw[G.o];exact⟨rfl,by assumption⟩
 |some r=>
  have N:=hd hn2;have hr:r<256:=U.numQ_lt 16 2 _ r (by omega) hn2;have G:Hd (U.escL q s.data.toList=some (U.byteOf r,3)):=hd <|by rw[hG,hn2];rfl
  have hm:(r:Int)%256=r:=(by omega);have hcc:Hd (cellsB (U.byteOf r)=[.int .u8 (r:Int)]):=hd <|by simp only[cellsB,U.byteOf,List.map_cons,List.map_nil];rw[U.ofNat_toNat r hr]
  clear hG hn2 e0 ec el hq hc;go_enter func54,ntmps54;go_wp2_with (first
   |(go_at_call 88;refine(digits16 _ 2 _ rfl _ hsz (by decide)).mono ?_;rintro e w1 ⟨rfl,hb1⟩;rw[N.o];dsimp only[digR];have ho1:=own_below hown hb1;have hB1:=Nat.le_trans hB hb1.size)
   |(at_builtin;refine wpList_app_lit 63 5 (.int .u8 0) 1 1 underlying63 info_u8 rfl (by decide) rfl _ _ rfl B v n xs w1 #[_] 1 rfl rfl ho1 rfl ?_ ?_ ?_ hB1 ?_))
  any_goals (first|omega|(simp[Value.oneCell'];done))
  intro v' w' ho hg;have hg2:=grown_trans (grown_of_below (show Below w.heap.size w w1 by assumption) v.ownBlock) hg;clear hg;go_wp2;go_ret2;unfold EscPost;rw[G.o];exact⟨v',rfl,by rw[hcc.o];exact ho,hg2⟩
theorem esc_u (q:Nat)(hq:q=34∨q=39)(s:ByteArray)(hs:s.size≤1125899906842624)(B:Nat)(v:Value)(n:Nat)(xs:List Value)(w:World)(hown:w.ownsRow B 5 1 v n xs)(hB:B≤w.heap.size)(hn:n≤140737488351232)(h0:0<s.size)(hc:U.at' s 0=117) :
  Calls prog 54 #[v,.string s,.int .u8 q] w (EscPost B 5 w v n xs (U.escL q s.data.toList)):=by
 obtain⟨c,ec,el⟩:=list_head s h0;have e0:=U.at_eq s 0 h0;have hne:s.toList.isEmpty=false:=(by rw[ByteArray.toList_eq,el];rfl);have hG:U.escL q s.data.toList=U.runeOf (U.numQ 16 4 (s.extract 1 s.size).data.toList) 5:=by
  rw[el,U.escL,ec,hc,if_neg (by decide),if_neg (by omega),if_neg (by decide),if_pos rfl];exact(U.rune8 4 _ 5)
 have hsz:(s.extract 1 s.size).size≤1125899906842624:=(by rw[ByteArray.size_extract];omega);have f1:((120:Int)==(q:Int))=false:=(by rw[bf];omega);have f2:((117:Int)==(q:Int))=false:=(by rw[bf];omega);have f3:((85:Int)==(q:Int))=false:=(by rw[bf];omega);have hq':((s[0]'h0).toNat:Int)=117:=(by rw[←e0,hc];rfl);cases hn2:U.numQ 16 4 (s.extract 1 s.size).data.toList with
 |none=>
  have N:=hd hn2;have G:Hd (U.escL q s.data.toList=none):=hd <|by rw[hG,hn2];rfl
  clear hG hn2 e0 ec el hq hc;go_enter func54,ntmps54;go_wp2_with (go_at_call 88;refine(digits16 _ 4 _ rfl _ hsz (by decide)).mono ?_;rintro e w1 ⟨rfl,hb1⟩;rw[N.o];dsimp only[digR])
  go_ret2;unfold EscPost;rw[G.o];exact⟨rfl,by assumption⟩
 |some r=>
  have N:=hd hn2;have hr:r<4294967296:=Nat.lt_of_lt_of_le (U.numQ_lt 16 4 _ r (by omega) hn2) (by decide);have hr2:r≤2147483647:=numQ_i32 hn2;clear hr;cases hv:Utf8.valid (r:Int) with
  |false=>
   have V:Hd (Utf8.valid (r:Int)=false):=hd hv;have G:Hd (U.escL q s.data.toList=none):=hd <|by rw[hG,hn2,U.runeOf_bad r _ hv]
   clear hG hn2 e0 ec el hq hc hv;go_enter func54,ntmps54;go_wp2_with (first
    |(go_at_call 88;refine(digits16 _ 4 _ rfl _ hsz (by decide)).mono ?_;rintro e w1 ⟨rfl,hb1⟩;rw[N.o];dsimp only[digR])
    |(go_at_call 89;refine(isRune_any _ _ (by omega) (by omega)).mono ?_;rintro e w' ⟨rfl,rfl⟩;rw[V.o]))
   go_ret2;unfold EscPost;rw[G.o];exact⟨rfl,by assumption⟩
  |true=>
   have V:Hd (Utf8.valid (r:Int)=true):=hd hv;have G:Hd (U.escL q s.data.toList=some ((Utf8.encode (r:Int)).toList,5)):=hd <|by rw[hG,hn2,U.runeOf_good r _ hv]
   clear hG hn2 e0 ec el hq hc hv;go_enter func54,ntmps54;go_wp2_with (first
    |(go_at_call 88;refine(digits16 _ 4 _ rfl _ hsz (by decide)).mono ?_;rintro e w1 ⟨rfl,hb1⟩;rw[N.o];dsimp only[digR];have ho1:=own_below hown hb1;have hB1:=Nat.le_trans hB hb1.size)
    |(go_at_call 89;refine(isRune_any _ _ (by omega) (by omega)).mono ?_;rintro e w' ⟨rfl,rfl⟩;rw[V.o])
    |(go_at_call 71;refine(form_any _ V.o B v n xs w1 ho1 hB1 hn).mono ?_;rintro e w2 ⟨v',rfl,ho,hg⟩;have hg2:=grown_trans (grown_of_below (show Below w.heap.size w w1 by assumption) v.ownBlock) hg;clear hg))
   go_ret2;unfold EscPost;rw[G.o];exact⟨_,rfl,by assumption,by assumption⟩
theorem esc_U (q:Nat)(hq:q=34∨q=39)(s:ByteArray)(hs:s.size≤1125899906842624)(B:Nat)(v:Value)(n:Nat)(xs:List Value)(w:World)(hown:w.ownsRow B 5 1 v n xs)(hB:B≤w.heap.size)(hn:n≤140737488351232)(h0:0<s.size)(hc:U.at' s 0=85) :
  Calls prog 54 #[v,.string s,.int .u8 q] w (EscPost B 5 w v n xs (U.escL q s.data.toList)):=by
 obtain⟨c,ec,el⟩:=list_head s h0;have e0:=U.at_eq s 0 h0;have hne:s.toList.isEmpty=false:=(by rw[ByteArray.toList_eq,el];rfl);have hG:U.escL q s.data.toList=U.runeOf (U.numQ 16 8 (s.extract 1 s.size).data.toList) 9:=by
  rw[el,U.escL,ec,hc,if_neg (by decide),if_neg (by omega),if_neg (by decide),if_neg (by decide),if_pos rfl];exact(U.rune8 8 _ 9)
 have hsz:(s.extract 1 s.size).size≤1125899906842624:=(by rw[ByteArray.size_extract];omega);have f1:((120:Int)==(q:Int))=false:=(by rw[bf];omega);have f2:((117:Int)==(q:Int))=false:=(by rw[bf];omega);have f3:((85:Int)==(q:Int))=false:=(by rw[bf];omega);have hq':((s[0]'h0).toNat:Int)=85:=(by rw[←e0,hc];rfl);cases hn2:U.numQ 16 8 (s.extract 1 s.size).data.toList with
 |none=>
  have N:=hd hn2;have G:Hd (U.escL q s.data.toList=none):=hd <|by rw[hG,hn2];rfl
  clear hG hn2 e0 ec el hq hc;go_enter func54,ntmps54;go_wp2_with (go_at_call 88;refine(digits16 _ 8 _ rfl _ hsz (by decide)).mono ?_;rintro e w1 ⟨rfl,hb1⟩;rw[N.o];dsimp only[digR])
  go_ret2;unfold EscPost;rw[G.o];exact⟨rfl,by assumption⟩
 |some r=>
  have N:=hd hn2;have hr:r<4294967296:=Nat.lt_of_lt_of_le (U.numQ_lt 16 8 _ r (by omega) hn2) (by decide);have hr2:r≤2147483647:=numQ_i32 hn2;clear hr;cases hv:Utf8.valid (r:Int) with
  |false=>
   have V:Hd (Utf8.valid (r:Int)=false):=hd hv;have G:Hd (U.escL q s.data.toList=none):=hd <|by rw[hG,hn2,U.runeOf_bad r _ hv]
   clear hG hn2 e0 ec el hq hc hv;go_enter func54,ntmps54;go_wp2_with (first
    |(go_at_call 88;refine(digits16 _ 8 _ rfl _ hsz (by decide)).mono ?_;rintro e w1 ⟨rfl,hb1⟩;rw[N.o];dsimp only[digR])
    |(go_at_call 89;refine(isRune_any _ _ (by omega) (by omega)).mono ?_;rintro e w' ⟨rfl,rfl⟩;rw[V.o]))
   go_ret2;unfold EscPost;rw[G.o];exact⟨rfl,by assumption⟩
  |true=>
   have V:Hd (Utf8.valid (r:Int)=true):=hd hv;have G:Hd (U.escL q s.data.toList=some ((Utf8.encode (r:Int)).toList,9)):=hd <|by rw[hG,hn2,U.runeOf_good r _ hv]
   clear hG hn2 e0 ec el hq hc hv;go_enter func54,ntmps54;go_wp2_with (first
    |(go_at_call 88;refine(digits16 _ 8 _ rfl _ hsz (by decide)).mono ?_;rintro e w1 ⟨rfl,hb1⟩;rw[N.o];dsimp only[digR];have ho1:=own_below hown hb1;have hB1:=Nat.le_trans hB hb1.size)
    |(go_at_call 89;refine(isRune_any _ _ (by omega) (by omega)).mono ?_;rintro e w' ⟨rfl,rfl⟩;rw[V.o])
    |(go_at_call 71;refine(form_any _ V.o B v n xs w1 ho1 hB1 hn).mono ?_;rintro e w2 ⟨v',rfl,ho,hg⟩;have hg2:=grown_trans (grown_of_below (show Below w.heap.size w w1 by assumption) v.ownBlock) hg;clear hg))
   go_ret2;unfold EscPost;rw[G.o];exact⟨_,rfl,by assumption,by assumption⟩
theorem esc_oct (q:Nat)(hq:q=34∨q=39)(s:ByteArray)(hs:s.size≤1125899906842624)(B:Nat)(v:Value)(n:Nat)(xs:List Value)(w:World)(hown:w.ownsRow B 5 1 v n xs)(hB:B≤w.heap.size)(hn:n≤140737488351232)(h0:0<s.size)(hc:U.isLetter (U.at' s 0)=false)(hc2:U.at' s 0≠92∧U.at' s 0≠q∧U.at' s 0≠120∧U.at' s 0≠117∧U.at' s 0≠85) :
  Calls prog 54 #[v,.string s,.int .u8 q] w (EscPost B 5 w v n xs (U.escL q s.data.toList)):=by
 obtain⟨c,ec,el⟩:=list_head s h0;have e0:=U.at_eq s 0 h0;have hne:s.toList.isEmpty=false:=(by rw[ByteArray.toList_eq,el];rfl);have hG:U.escL q s.data.toList=(U.numQ 8 3 s.data.toList).bind fun v=>if v≤255 then some (U.byteOf v,3) else none:=by
  rw[el,U.escL,ec,hc,if_neg (by simp),if_neg (by omega),if_neg hc2.2.2.1,if_neg hc2.2.2.2.1,if_neg hc2.2.2.2.2,U.numQ_eq 8 3 _ (by omega) (by decide)]
 have hlt:U.at' s 0≠97∧U.at' s 0≠98∧U.at' s 0≠116∧U.at' s 0≠110∧U.at' s 0≠118∧U.at' s 0≠102∧U.at' s 0≠114:=by
  simp only[U.isLetter,Bool.or_eq_false_iff,bf]at hc;omega
 have g97:((((s[0]'h0).toNat:Int)==97))=false:=(by rw[bf];omega);have g98:((((s[0]'h0).toNat:Int)==98))=false:=(by rw[bf];omega);have g116:((((s[0]'h0).toNat:Int)==116))=false:=(by rw[bf];omega);have g110:((((s[0]'h0).toNat:Int)==110))=false:=(by rw[bf];omega);have g118:((((s[0]'h0).toNat:Int)==118))=false:=(by rw[bf];omega);have g102:((((s[0]'h0).toNat:Int)==102))=false:=(by rw[bf];omega);have g114:((((s[0]'h0).toNat:Int)==114))=false:=by rw[bf];omega
 have g92:((((s[0]'h0).toNat:Int)==92))=false:=(by rw[bf];omega);have g120:((((s[0]'h0).toNat:Int)==120))=false:=(by rw[bf];omega);have g117:((((s[0]'h0).toNat:Int)==117))=false:=(by rw[bf];omega);have g85:((((s[0]'h0).toNat:Int)==85))=false:=(by rw[bf];omega);have gq:((((s[0]'h0).toNat:Int)==(q:Int)))=false:=(by rw[bf];omega);cases hn2:U.numQ 8 3 s.data.toList with
 |none=>
  have N:=hd hn2;have G:Hd (U.escL q s.data.toList=none):=hd <|by rw[hG,hn2];rfl
  clear hG hn2 e0 ec el hq hc hc2 hlt;go_enter func54,ntmps54;go_wp2_with (go_at_call 88;refine(digits8 _ 3 _ rfl _ hs (by decide)).mono ?_;rintro e w1 ⟨rfl,hb1⟩;rw[N.o];dsimp only[digR])
  go_ret2;unfold EscPost;rw[G.o];exact⟨rfl,by assumption⟩
 |some r=>
  have N:=hd hn2;have hr:r<512:=U.numQ_lt 8 3 _ r (by omega) hn2;by_cases h255:r≤255
  ·have G:Hd (U.escL q s.data.toList=some (U.byteOf r,3)):=hd <|by rw[hG,hn2];exact if_pos h255
   have hm:(r:Int)%256=r:=(by omega);have hcc:Hd (cellsB (U.byteOf r)=[.int .u8 (r:Int)]):=hd <|by simp only[cellsB,U.byteOf,List.map_cons,List.map_nil];rw[U.ofNat_toNat r (by omega)]
   clear hG hn2 e0 ec el hq hc hc2 hlt;go_enter func54,ntmps54;go_wp2_with (first
    |(go_at_call 88;refine(digits8 _ 3 _ rfl _ hs (by decide)).mono ?_;rintro e w1 ⟨rfl,hb1⟩;rw[N.o];dsimp only[digR];have ho1:=own_below hown hb1;have hB1:=Nat.le_trans hB hb1.size)
    |(at_builtin;refine wpList_app_lit 63 5 (.int .u8 0) 1 1 underlying63 info_u8 rfl (by decide) rfl _ _ rfl B v n xs w1 #[_] 1 rfl rfl ho1 rfl ?_ ?_ ?_ hB1 ?_))
   any_goals (first|omega|(simp[Value.oneCell'];done))
   intro v' w' ho hg;have hg2:=grown_trans (grown_of_below (show Below w.heap.size w w1 by assumption) v.ownBlock) hg;clear hg;go_wp2;go_ret2;unfold EscPost;rw[G.o];exact⟨v',rfl,by rw[hcc.o];exact ho,hg2⟩
  ·have G:Hd (U.escL q s.data.toList=none):=hd <|by rw[hG,hn2];exact if_neg h255
   clear hG hn2 e0 ec el hq hc hc2 hlt;go_enter func54,ntmps54;go_wp2_with (go_at_call 88;refine(digits8 _ 3 _ rfl _ hs (by decide)).mono ?_;rintro e w1 ⟨rfl,hb1⟩;rw[N.o];dsimp only[digR])
   go_ret2;unfold EscPost;rw[G.o];exact⟨rfl,by assumption⟩
theorem escape_any (q:Nat)(hq:q=34∨q=39)(s:ByteArray)(hs:s.size≤1125899906842624)(B:Nat)(v:Value)(n:Nat)(xs:List Value)(w:World)(hown:w.ownsRow B 5 1 v n xs)(hB:B≤w.heap.size)(hn:n≤140737488351232) :
  Calls prog 54 #[v,.string s,.int .u8 q] w (EscPost B 5 w v n xs (U.escL q s.data.toList)):=by
 by_cases h0:s.size=0
 ·exact esc_nil q hq s hs B v n xs w hown hB hn h0
 have h0':0<s.size:=(by omega);cases hl:U.isLetter (U.at' s 0) with
 |true=>
  refine esc_letter (U.at' s 0) ?_ q hq s hs B v n xs w hown hB hn h0' rfl;simpa[U.isLetter,or_assoc] using hl
 |false=>
  by_cases h1:U.at' s 0=92
  ·exact esc_back q hq s hs B v n xs w hown hB hn h0' h1
  by_cases h2:U.at' s 0=q
  ·exact esc_quote q hq s hs B v n xs w hown hB hn h0' h2
  by_cases h3:U.at' s 0=120
  ·exact esc_x q hq s hs B v n xs w hown hB hn h0' h3
  by_cases h4:U.at' s 0=117
  ·exact esc_u q hq s hs B v n xs w hown hB hn h0' h4
  by_cases h5:U.at' s 0=85
  ·exact esc_U q hq s hs B v n xs w hown hB hn h0' h5
  exact esc_oct q hq s hs B v n xs w hown hB hn h0' hl ⟨h1,h2,h3,h4,h5⟩
end Go.Proofs.YtieknenhfeejiaaGreatDoor
namespace Go.Proofs.YtieknenhfeejiaaGreatDoor.U
open _root_.Go.Proofs.Tryz
open Go
theorem enc_len (v:Nat)(hv:Utf8.valid (v:Int)=true):(Utf8.encode (v:Int)).toList.length≤4:=by
 have:=enc_size v hv;rw[ByteArray.toList_eq,←Lib.size_eq,this]
 repeat' split
 all_goals omega
theorem escL_len (q:Nat)(l:List UInt8)(bs:List UInt8)(k:Nat)(h:escL q l=some (bs,k)):bs.length≤k∧1≤k∧k≤l.length:=by
 cases l with
 |nil=>cases h
 |cons c r=>
  rw[escL]at h;by_cases h1:isLetter c.toNat=true
  ·rw[if_pos h1]at h;cases h;exact⟨by simp[byteOf],by omega,by simp⟩
  rw[if_neg h1]at h;by_cases h2:c.toNat=92∨c.toNat=q
  ·rw[if_pos h2]at h;cases h;exact⟨by simp,by omega,by simp⟩
  rw[if_neg h2]at h;have nl:∀b m v,numL b m r=some v→m≤r.length:=by
   intro b m v hv;unfold numL at hv;split at hv
   ·cases hv
   ·omega
  by_cases h3:c.toNat=120
  ·rw[if_pos h3]at h
   cases hn:numL 16 2 r with
   |none=>rw[hn]at h;cases h
   |some v=>rw[hn]at h;cases h;have:=nl _ _ _ hn;exact⟨by simp[byteOf],by omega,by simp;omega⟩
  rw[if_neg h3]at h;have ru:∀m kk,4≤kk→kk≤m+1→runeOf (numL 16 m r) kk=some (bs,k)→bs.length≤k∧1≤k∧k≤(c::r).length:=by
   intro m kk h4 h5 hr;cases hn:numL 16 m r with
   |none=>rw[hn]at hr;cases hr
   |some v=>
    rw[hn]at hr;have:=nl _ _ _ hn;cases hv:Utf8.valid (v:Int) with
    |false=>rw[runeOf_bad v _ hv]at hr;cases hr
    |true=>
     rw[runeOf_good v _ hv]at hr;cases hr
     have:=enc_len v hv;exact⟨by omega,by omega,by simp;omega⟩
  by_cases h4:c.toNat=117
  ·rw[if_pos h4]at h;exact ru 4 5 (by omega) (by omega) h
  rw[if_neg h4]at h;by_cases h5:c.toNat=85
  ·rw[if_pos h5]at h;exact ru 8 9 (by omega) (by omega) h
  rw[if_neg h5]at h;cases hn:numL 8 3 (c::r) with
  |none=>rw[hn]at h;cases h
  |some v=>
   rw[hn]at h;have hl:3≤(c::r).length:=by
    unfold numL at hn;split at hn
    ·cases hn
    ·omega
   by_cases h6:v≤255
   ·have h':some (byteOf v,3)=some (bs,k):=by rw[←h];exact(if_pos h6).symm
    cases h';exact⟨by simp[byteOf],by omega,hl⟩
   ·have h':(none:Option (List UInt8×Nat))=some (bs,k):=by rw[←h];exact(if_neg h6).symm
    cases h'
theorem drop_cons (t:ByteArray)(p:Nat)(h:p<t.size):∃c:UInt8,c.toNat=at' t p∧t.data.toList.drop p=c::t.data.toList.drop (p+1):=by
 obtain⟨h',e⟩:=list_at t p h;exact⟨_,e,List.drop_eq_getElem_cons h'⟩
theorem ext_drop (t:ByteArray)(p:Nat):(t.extract p t.size).data.toList=t.data.toList.drop p:=by
 rw[Lib.extract_data,Lib.size_eq,←List.length_drop,List.take_length]
theorem ext_mid (s:ByteArray)(h:2≤s.size):(s.extract 1 (s.size-1)).data.toList=(s.data.toList.drop 1).take (s.size-2):=by
 rw[Lib.extract_data,show s.size-1-1=s.size-2 by omega]
theorem lit_gt (s:ByteArray)(q:Nat):∀m i n,s.size-i=m→lit s q i=some n→i<n∧n≤s.size:=by
 intro m;induction m using Nat.strongRecOn with
 |ind m ih=>
  intro i n hm h;rw[lit]at h;split at h
  ·rename_i hi
   split at h
   ·cases h;omega
   ·split at h
    ·have:=ih (s.size-(i+1)) (by omega) _ _ rfl h;omega
    ·split at h
     ·cases h
     ·split at h
      ·split at h
       ·cases h
       ·have:=ih (s.size-(i+2)) (by omega) _ _ rfl h;omega
      ·have:=ih (s.size-(i+1)) (by omega) _ _ rfl h;omega
  ·cases h
end Go.Proofs.YtieknenhfeejiaaGreatDoor.U
namespace Go.Proofs.YtieknenhfeejiaaGreatDoor.U
open _root_.Go.Proofs.Tryz
open Go
theorem vf_good (s:ByteArray)(p:Nat)(h:p<s.size)(hv:vfrom s p=true):bad s p=false∧vfrom s (p+(Utf8.decode s p).2)=true:=by
 cases hb:bad s p with
 |true=>rw[vfrom_bad s p h hb]at hv;cases hv
 |false=>exact⟨rfl,by rw[←vfrom_step s p h hb];exact hv⟩
end Go.Proofs.YtieknenhfeejiaaGreatDoor.U
namespace Go.Proofs.YtieknenhfeejiaaGreatDoor.U
open _root_.Go.Proofs.Tryz
open Go
def hxN (i:Nat):Nat:=if i<10 then 48+i else 87+i
def backL:List UInt8→Nat→Nat
 |a::b::r,c=>if b.toNat=c then a.toNat else backL r c
 |_,_=>0
def wrB (list head:List UInt8)(del:Bool)(c:UInt8):List UInt8:=
 if backL list c.toNat≠0 then [92,UInt8.ofNat (backL list c.toNat)]
 else if c.toNat<32∨(del=true∧c.toNat=127) then head++[UInt8.ofNat (hxN (c.toNat/16)),UInt8.ofNat (hxN (c.toNat%16))]
 else [c]
def listQ:List UInt8:=[34,34,92,92,97,7,98,8,116,9,110,10,118,11,102,12,114,13]
def wrQ:UInt8→List UInt8:=wrB listQ [92,120] true
def letQ:List UInt8:=[97,98,116,110,118,102,114]
theorem wrQ_back:∀c:Nat,c<256→(c=34∨c=92)→wrQ (UInt8.ofNat c)=[92,UInt8.ofNat c]:=by decide +kernel
theorem wrQ_let:∀c:Nat,c<256→(7≤c∧c≤13)→wrQ (UInt8.ofNat c)=[92,letQ.getD (c-7) 0]:=by decide +kernel
theorem wrQ_hex:∀c:Nat,c<256→((c<32∨c=127)∧¬ (7≤c∧c≤13))→wrQ (UInt8.ofNat c)=[92,120,UInt8.ofNat (hxN (c/16)),UInt8.ofNat (hxN (c%16))]:=by decide +kernel
theorem wrQ_self:∀c:Nat,c<256→(32≤c∧c≠127∧c≠34∧c≠92)→wrQ (UInt8.ofNat c)=[UInt8.ofNat c]:=by decide +kernel
theorem wrQ_len:∀c:Nat,c<256→(wrQ (UInt8.ofNat c)).length≤6:=by decide +kernel
def wrS (f:UInt8→List UInt8)(s:ByteArray):List UInt8×Int:=if valid s then(34::s.data.toList.flatMap f++[34],0) else([],4)
theorem flat_self (f:UInt8→List UInt8)(hf:∀c:UInt8,128≤c.toNat→f c=[c]):∀l:List UInt8,(∀c∈l,128≤c.toNat)→l.flatMap f=l
 |[],_=>rfl
 |c::l,h=>by
  rw[List.flatMap_cons,hf c (h c (by simp)),flat_self f hf l (fun x hx=>h x (by simp[hx]))];rfl
theorem take_rune (s:ByteArray)(p:Nat)(h:p<s.size)(hg:bad s p=false):s.data.toList.take (p+(Utf8.decode s p).2)=s.data.toList.take p++(Utf8.encode (run s p:Int)).toList:=by
 have:=good_form s p h hg;rw[Lib.extract_toList,Nat.add_sub_cancel_left]at this;rw[←this,List.take_add]
theorem enc_high (v:Nat)(hv:Utf8.valid (v:Int)=true)(h:128≤v):∀c∈(Utf8.encode (v:Int)).toList,128≤c.toNat:=by
 have hb:=(valid_iff _).1 hv;rw[enc_list v hv,if_neg (by omega)];intro c hc;by_cases h2:v<2048
 ·rw[if_pos h2]at hc
  simp only[List.mem_cons,List.not_mem_nil,or_false]at hc;rcases hc with rfl|rfl<;>rw[ofNat_toNat _ (by omega)]<;>omega
 rw[if_neg h2]at hc;by_cases h3:v<65536
 ·rw[if_pos h3]at hc
  simp only[List.mem_cons,List.not_mem_nil,or_false]at hc;rcases hc with rfl|rfl|rfl<;>rw[ofNat_toNat _ (by omega)]<;>omega
 rw[if_neg h3]at hc;simp only[List.mem_cons,List.not_mem_nil,or_false]at hc;rcases hc with rfl|rfl|rfl|rfl<;>rw[ofNat_toNat _ (by omega)]<;>omega
theorem enc_low (v:Nat)(h:v<128):(Utf8.encode (v:Int)).toList=[UInt8.ofNat v]:=by
 rw[enc_list v ((valid_iff _).2 (by omega)),if_pos h]
theorem flat_low (f:UInt8→List UInt8)(s:ByteArray)(p:Nat)(h:p<s.size)(hg:bad s p=false)(hr:run s p<128) :
  (s.data.toList.take (p+(Utf8.decode s p).2)).flatMap f=(s.data.toList.take p).flatMap f++f (UInt8.ofNat (run s p)):=by
 rw[take_rune s p h hg,List.flatMap_append,enc_low _ hr];simp
theorem flat_high (f:UInt8→List UInt8)(hf:∀c:UInt8,128≤c.toNat→f c=[c])(s:ByteArray)(p:Nat)(h:p<s.size)(hg:bad s p=false)(hr:128≤run s p) :
  (s.data.toList.take (p+(Utf8.decode s p).2)).flatMap f=(s.data.toList.take p).flatMap f++(Utf8.encode (run s p:Int)).toList:=by
 rw[take_rune s p h hg,List.flatMap_append,flat_self f hf _ (enc_high _ (good_valid s p hg) hr)]
theorem u8_of (c:UInt8):UInt8.ofNat c.toNat=c:=UInt8.toNat_inj.1 (ofNat_toNat _ c.toNat_lt)
theorem wrQ_high (c:UInt8)(h:128≤c.toNat):wrQ c=[c]:=by
 have:=wrQ_self c.toNat c.toNat_lt (by omega);rwa[u8_of]at this
theorem flat_len (f:UInt8→List UInt8)(hf:∀c:Nat,c<256→(f (UInt8.ofNat c)).length≤6):∀l:List UInt8,(l.flatMap f).length≤6*l.length
 |[]=>by simp
 |c::l=>by
  rw[List.flatMap_cons,List.length_append,List.length_cons];have h1:=hf c.toNat c.toNat_lt;rw[u8_of]at h1;have:=flat_len f hf l;omega
end Go.Proofs.YtieknenhfeejiaaGreatDoor.U
