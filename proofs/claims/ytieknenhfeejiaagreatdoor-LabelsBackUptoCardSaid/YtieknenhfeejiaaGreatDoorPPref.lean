/- num.digit, num.hex, num.digits, num.exponent, num.Prefix, num.word (num/num.g .. -/
import Derived.Test.YtieknenhfeejiaaGreatDoorBase3
import Derived.Test.YtieknenhfeejiaaGreatDoorUNext
import Derived.Deep.DeepCutAuto
set_option maxHeartbeats 4000000
set_option maxRecDepth 100000
set_option linter.unusedVariables false
set_option linter.unusedSimpArgs false
namespace Go.Proofs.YtieknenhfeejiaaGreatDoor
open _root_.Go.Proofs.Tryz
open Go.RowKit
namespace PN
def dg (c:Nat):Bool:=decide (48≤c∧c≤57)
def hx (c:Nat):Bool:=decide ((48≤c∧c≤57)∨(97≤c∧c≤102)∨(65≤c∧c≤70))
def spn (p:Nat→Bool)(l:List UInt8):Nat:=(l.takeWhile (fun c=>p c.toNat)).length
theorem spn_nil (p:Nat→Bool):spn p []=0:=rfl
theorem spn_yes {p:Nat→Bool}{c:UInt8}{l:List UInt8}(h:p c.toNat=true):spn p (c::l)=spn p l+1:=by
 unfold spn;rw[List.takeWhile_cons_of_pos (by simpa using h)];rfl
theorem spn_no {p:Nat→Bool}{c:UInt8}{l:List UInt8}(h:p c.toNat=false):spn p (c::l)=0:=by
 unfold spn;rw[List.takeWhile_cons_of_neg (by simp[h])];rfl
theorem spn_le (p:Nat→Bool)(l:List UInt8):spn p l≤l.length:=by
 unfold spn;exact(List.takeWhile_sublist _).length_le
end PN
theorem data_drop' (s:ByteArray)(k:Nat)(h:k<s.size):s.data.toList.drop k=s[k]::s.data.toList.drop (k+1):=
 List.drop_eq_getElem_cons (by simpa using h)
theorem ndigit_any (c:Nat)(w:World)(h:c<256) :
  Calls prog 143 #[.int .u8 c] w fun e w'=>e=.returned (.bool (PN.dg c))∧w=w':=by
 by_cases h1:48≤c∧c≤57
 ·have G:Hd (PN.dg c=true):=hd <|by unfold PN.dg;simp[h1]
  obtain⟨a1,a2⟩:=h1;go_enter func143,ntmps143;go_wp2;go_ret;exact⟨ret_bool (by first|exact G.o.symm|(rw[G.o];simp;omega)),rfl⟩
 ·have G:Hd (PN.dg c=false):=hd <|by unfold PN.dg;simp[h1]
  go_enter func143,ntmps143;go_wp2
  all_goals first|(exfalso;omega)|(go_ret;exact⟨ret_bool (by first|exact G.o.symm|(rw[G.o];simp;omega)),rfl⟩)
theorem nhex_any (c:Nat)(w:World)(h:c<256) :
  Calls prog 141 #[.int .u8 c] w fun e w'=>e=.returned (.bool (PN.hx c))∧w=w':=by
 cases hdc:PN.dg c with
 |true=>
  have V:=hd hdc;have G:Hd (PN.hx c=true):=hd <|by unfold PN.dg at hdc;unfold PN.hx;simp at hdc;simp[hdc]
  clear hdc;go_enter func141,ntmps141;go_wp2_with (go_at_call 143;refine(ndigit_any _ _ h).mono ?_;rintro e w' ⟨rfl,rfl⟩;rw[V.o])
  go_ret;exact⟨ret_bool (by first|exact G.o.symm|(rw[G.o];simp;omega)),rfl⟩
 |false=>
  have V:=hd hdc;have G:Hd (PN.hx c=decide ((97≤c∧c≤102)∨(65≤c∧c≤70))):=hd <|by unfold PN.dg at hdc;unfold PN.hx;rw[decide_eq_false_iff_not]at hdc;simp only[hdc,false_or]
  clear hdc;by_cases a1:97≤c∧c≤102
  ·have G2:Hd (PN.hx c=true):=hd <|by rw[G.o];simp[a1]
   obtain⟨b1,b2⟩:=a1;go_enter func141,ntmps141;go_wp2_with (go_at_call 143;refine(ndigit_any _ _ h).mono ?_;rintro e w' ⟨rfl,rfl⟩;rw[V.o])
   all_goals first|(exfalso;omega)|(go_ret;exact⟨ret_bool (by first|exact G2.o.symm|(rw[G2.o];simp;omega)),rfl⟩)
  ·by_cases a2:65≤c∧c≤70
   ·have G2:Hd (PN.hx c=true):=hd <|by rw[G.o];simp[a2]
    obtain⟨b1,b2⟩:=a2;go_enter func141,ntmps141;go_wp2_with (go_at_call 143;refine(ndigit_any _ _ h).mono ?_;rintro e w' ⟨rfl,rfl⟩;rw[V.o])
    all_goals first|(exfalso;omega)|(go_ret;exact⟨ret_bool (by first|exact G2.o.symm|(rw[G2.o];simp;omega)),rfl⟩)
   ·have G2:Hd (PN.hx c=false):=hd <|by rw[G.o];simp[a1,a2]
    go_enter func141,ntmps141;go_wp2_with (go_at_call 143;refine(ndigit_any _ _ h).mono ?_;rintro e w' ⟨rfl,rfl⟩;rw[V.o])
    all_goals first|(exfalso;omega)|(go_ret;exact⟨ret_bool (by first|exact G2.o.symm|(rw[G2.o];simp;omega)),rfl⟩)
theorem digitsD_any (s:ByteArray)(i:Nat)(w:World)(hs:s.size≤1125899906842624)(hi:i≤s.size) :
  Calls prog 142 #[.string s,.int .i64 i,.func (.func 143) #[] #[]] w fun e w'=>e=.returned (.int .i64 ((i+PN.spn PN.dg (s.data.toList.drop i):Nat):Int))∧w=w':=by
 go_enter func142,ntmps142;go_wp2
 go_loop [1] (fun x=>∃k:Nat,k≤s.size∧x=.int .i64 k∧Hd (k+PN.spn PN.dg (s.data.toList.drop k)=i+PN.spn PN.dg (s.data.toList.drop i))) (fun x=>s.size-(intOf x).toNat)
 case atStart=>exact⟨i,hi,rfl,hd rfl⟩
 case round=>
  obtain⟨k,hk,rfl,hG⟩:=hrel;by_cases hlt:k<s.size
  ·have HDR:=hd (data_drop' s k hlt)
   have hc:(s[k]'hlt).toNat<256:=(s[k]'hlt).toNat_lt;have YES:Hd (PN.dg (s[k]'hlt).toNat=true→(k+1)+PN.spn PN.dg (s.data.toList.drop (k+1))=i+PN.spn PN.dg (s.data.toList.drop i)):=hd fun h=>by
    rw[←hG.o,HDR.o,PN.spn_yes h];omega
   have NO:Hd (PN.dg (s[k]'hlt).toNat=false→k=i+PN.spn PN.dg (s.data.toList.drop i)):=hd fun h=>by
    rw[←hG.o,HDR.o,PN.spn_no h];rfl
   clear hG HDR;cases hl:PN.dg (s[k]'hlt).toNat with
   |true=>
    have V:=hd hl;have G:=hd (YES.o hl);clear YES NO hl;go_wp2_with (go_at_call 143;refine(ndigit_any _ _ hc).mono ?_;rintro e w' ⟨rfl,rfl⟩;rw[V.o])
    go_round
    case rel=>exact⟨k+1,by omega,by go_num,G⟩
    case measure=>simp[intOf];omega
   |false=>
    have V:=hd hl;have G:=hd (NO.o hl);clear YES NO hl;go_wp2_with (go_at_call 143;refine(ndigit_any _ _ hc).mono ?_;rintro e w' ⟨rfl,rfl⟩;rw[V.o])
    go_ret;exact⟨ret_int (by have:=G.o;omega),rfl⟩
  ·have G:Hd (k=i+PN.spn PN.dg (s.data.toList.drop i)):=hd <|by
    rw[←hG.o,List.drop_eq_nil_of_le (by rw[←Lib.size_eq];omega),PN.spn_nil];rfl
   go_wp2;go_ret;exact⟨ret_int (by have:=G.o;omega),rfl⟩
theorem digitsH_any (s:ByteArray)(i:Nat)(w:World)(hs:s.size≤1125899906842624)(hi:i≤s.size) :
  Calls prog 142 #[.string s,.int .i64 i,.func (.func 141) #[] #[]] w fun e w'=>e=.returned (.int .i64 ((i+PN.spn PN.hx (s.data.toList.drop i):Nat):Int))∧w=w':=by
 go_enter func142,ntmps142;go_wp2
 go_loop [1] (fun x=>∃k:Nat,k≤s.size∧x=.int .i64 k∧Hd (k+PN.spn PN.hx (s.data.toList.drop k)=i+PN.spn PN.hx (s.data.toList.drop i))) (fun x=>s.size-(intOf x).toNat)
 case atStart=>exact⟨i,hi,rfl,hd rfl⟩
 case round=>
  obtain⟨k,hk,rfl,hG⟩:=hrel;by_cases hlt:k<s.size
  ·have HDR:=hd (data_drop' s k hlt)
   have hc:(s[k]'hlt).toNat<256:=(s[k]'hlt).toNat_lt;have YES:Hd (PN.hx (s[k]'hlt).toNat=true→(k+1)+PN.spn PN.hx (s.data.toList.drop (k+1))=i+PN.spn PN.hx (s.data.toList.drop i)):=hd fun h=>by
    rw[←hG.o,HDR.o,PN.spn_yes h];omega
   have NO:Hd (PN.hx (s[k]'hlt).toNat=false→k=i+PN.spn PN.hx (s.data.toList.drop i)):=hd fun h=>by
    rw[←hG.o,HDR.o,PN.spn_no h];rfl
   clear hG HDR;cases hl:PN.hx (s[k]'hlt).toNat with
   |true=>
    have V:=hd hl;have G:=hd (YES.o hl);clear YES NO hl;go_wp2_with (go_at_call 141;refine(nhex_any _ _ hc).mono ?_;rintro e w' ⟨rfl,rfl⟩;rw[V.o])
    go_round
    case rel=>exact⟨k+1,by omega,by go_num,G⟩
    case measure=>simp[intOf];omega
   |false=>
    have V:=hd hl;have G:=hd (NO.o hl);clear YES NO hl;go_wp2_with (go_at_call 141;refine(nhex_any _ _ hc).mono ?_;rintro e w' ⟨rfl,rfl⟩;rw[V.o])
    go_ret;exact⟨ret_int (by have:=G.o;omega),rfl⟩
  ·have G:Hd (k=i+PN.spn PN.hx (s.data.toList.drop i)):=hd <|by
    rw[←hG.o,List.drop_eq_nil_of_le (by rw[←Lib.size_eq];omega),PN.spn_nil];rfl
   go_wp2;go_ret;exact⟨ret_int (by have:=G.o;omega),rfl⟩
namespace PN
def sgl:List UInt8→Nat
 |[]=>0
 |d::_=>if d.toNat=43∨d.toNat=45 then 1 else 0
def exl:List UInt8→Nat
 |[]=>0
 |c::r=>if c.toNat=101∨c.toNat=69 then(if 0<spn dg (r.drop (sgl r)) then 1+sgl r+spn dg (r.drop (sgl r)) else 0) else 0
theorem sgl_cons (d:UInt8)(r:List UInt8):sgl (d::r)=if d.toNat=43∨d.toNat=45 then 1 else 0:=rfl
theorem exl_cons (c:UInt8)(r:List UInt8):exl (c::r)=if c.toNat=101∨c.toNat=69 then(if 0<spn dg (r.drop (sgl r)) then 1+sgl r+spn dg (r.drop (sgl r)) else 0) else 0:=rfl
theorem exl_le (l:List UInt8):exl l≤l.length:=by
 cases l with
 |nil=>simp[exl]
 |cons c r=>
  rw[exl_cons];split
  ·split
   ·have h1:=spn_le dg (r.drop (sgl r))
    rw[List.length_drop]at h1
    rename_i h0
    simp;omega
   ·omega
  ·omega
end PN
theorem exponent_any (s:ByteArray)(i:Nat)(w:World)(hs:s.size≤1125899906842624)(hi:i≤s.size) :
  Calls prog 144 #[.string s,.int .i64 i] w fun e w'=>e=.returned (.int .i64 ((i+PN.exl (s.data.toList.drop i):Nat):Int))∧w=w':=by
 by_cases hlt:i<s.size
 ·have hdr:=data_drop' s i hlt
  have hc:(s[i]'hlt).toNat<256:=(s[i]'hlt).toNat_lt;by_cases he:(s[i]'hlt).toNat=101∨(s[i]'hlt).toNat=69
  ·have hx:PN.exl (s.data.toList.drop i)=if 0<PN.spn PN.dg ((s.data.toList.drop (i+1)).drop (PN.sgl (s.data.toList.drop (i+1)))) then 1+PN.sgl (s.data.toList.drop (i+1))+PN.spn PN.dg ((s.data.toList.drop (i+1)).drop (PN.sgl (s.data.toList.drop (i+1)))) else 0:=by
    rw[hdr,PN.exl_cons,if_pos he]
   rw[List.drop_drop]at hx;have t1:(((s[i]'hlt).toNat:Int)!=101)=false∨((((s[i]'hlt).toNat:Int)!=101)=true∧(((s[i]'hlt).toNat:Int)!=69)=false):=by
    rcases he with h|h
    ·left;rw[h];rfl
    ·right;rw[h];exact⟨rfl,rfl⟩
   clear he;by_cases hj:i+1<s.size
   ·have hdr1:=data_drop' s (i+1) hj
    have hd1:(s[i+1]'hj).toNat<256:=(s[i+1]'hj).toNat_lt;by_cases hsg:(s[i+1]'hj).toNat=43∨(s[i+1]'hj).toNat=45
    ·have hS:PN.sgl (s.data.toList.drop (i+1))=1:=by rw[hdr1,PN.sgl_cons,if_pos hsg]
     rw[hS]at hx;have t2:(((s[i+1]'hj).toNat:Int)==43)=true∨((((s[i+1]'hj).toNat:Int)==43)=false∧(((s[i+1]'hj).toNat:Int)==45)=true):=by
      rcases hsg with h|h
      ·left;rw[h];rfl
      ·right;rw[h];exact⟨rfl,rfl⟩
     have CD:=hd (digitsD_any s (i+1+1) w hs (by omega));clear hdr hdr1 hsg hS;generalize PN.spn PN.dg (s.data.toList.drop (i+1+1))=n at *;by_cases hn:0<n
     ·rw[if_pos hn]at hx
      have HX:=hd hx;clear hx;rcases t1 with t1|⟨t1,t1'⟩<;>rcases t2 with t2|⟨t2,t2'⟩
      all_goals
       go_enter func144,ntmps144;go_wp2_with (go_at_call 142;refine CD.o.mono ?_;rintro e w' ⟨rfl,rfl⟩)
       go_ret;exact⟨ret_int (by have:=HX.o;omega),rfl⟩
     ·rw[if_neg hn]at hx
      have HX:=hd hx;have hn0:n=0:=(by omega);subst hn0;clear hx hn;rcases t1 with t1|⟨t1,t1'⟩<;>rcases t2 with t2|⟨t2,t2'⟩
      all_goals
       go_enter func144,ntmps144;go_wp2_with (go_at_call 142;refine CD.o.mono ?_;rintro e w' ⟨rfl,rfl⟩)
       go_ret;exact⟨ret_int (by have:=HX.o;omega),rfl⟩
    ·have hS:PN.sgl (s.data.toList.drop (i+1))=0:=by rw[hdr1,PN.sgl_cons,if_neg hsg]
     rw[hS,Nat.add_zero]at hx;have t2:(((s[i+1]'hj).toNat:Int)==43)=false:=(by rw[bf];omega);have t2':(((s[i+1]'hj).toNat:Int)==45)=false:=(by rw[bf];omega);have CD:=hd (digitsD_any s (i+1) w hs (by omega));clear hdr hdr1 hsg hS;generalize PN.spn PN.dg (s.data.toList.drop (i+1))=n at *;by_cases hn:0<n
     ·rw[if_pos hn]at hx
      have HX:=hd hx;clear hx;rcases t1 with t1|⟨t1,t1'⟩
      all_goals
       go_enter func144,ntmps144;go_wp2_with (go_at_call 142;refine CD.o.mono ?_;rintro e w' ⟨rfl,rfl⟩)
       go_ret;exact⟨ret_int (by have:=HX.o;omega),rfl⟩
     ·rw[if_neg hn]at hx
      have HX:=hd hx;have hn0:n=0:=(by omega);subst hn0;clear hx hn;rcases t1 with t1|⟨t1,t1'⟩
      all_goals
       go_enter func144,ntmps144;go_wp2_with (go_at_call 142;refine CD.o.mono ?_;rintro e w' ⟨rfl,rfl⟩)
       go_ret;exact⟨ret_int (by have:=HX.o;omega),rfl⟩
   ·have hnil:s.data.toList.drop (i+1)=[]:=List.drop_eq_nil_of_le (by rw[←Lib.size_eq];omega)
    have hS:PN.sgl (s.data.toList.drop (i+1))=0:=(by rw[hnil];rfl);rw[hS,Nat.add_zero]at hx;have CD:=hd (digitsD_any s (i+1) w hs (by omega));have hn0:PN.spn PN.dg (s.data.toList.drop (i+1))=0:=(by rw[hnil];rfl);rw[hn0]at hx CD;have HX:=hd hx;have hj2:i+1=s.size:=(by omega);clear hx hn0 hnil hS hdr;rcases t1 with t1|⟨t1,t1'⟩
    all_goals
     go_enter func144,ntmps144;go_wp2_with (go_at_call 142;refine CD.o.mono ?_;rintro e w' ⟨rfl,rfl⟩)
     go_ret;exact⟨ret_int (by have:=HX.o;simp at this;omega),rfl⟩
  ·have hx:PN.exl (s.data.toList.drop i)=0:=by rw[hdr,PN.exl_cons,if_neg he]
   have t1:(((s[i]'hlt).toNat:Int)!=101)=true:=(by rw[bne_iff_ne];omega);have t1':(((s[i]'hlt).toNat:Int)!=69)=true:=(by rw[bne_iff_ne];omega);have HX:=hd hx;clear hx hdr he;go_enter func144,ntmps144;go_wp2;go_ret;exact⟨ret_int (by have:=HX.o;omega),rfl⟩
 ·have hx:PN.exl (s.data.toList.drop i)=0:=by rw[List.drop_eq_nil_of_le (by rw[←Lib.size_eq];omega)];rfl
  have HX:=hd hx;have e:i=s.size:=(by omega);subst e;clear hx;go_enter func144,ntmps144;go_wp2;go_ret;exact⟨ret_int (by have:=HX.o;omega),rfl⟩
namespace PN
def hexHead:List UInt8→Bool
 |a::b::c::_=>decide (a.toNat=48∧(b.toNat=120∨b.toNat=88)∧hx c.toNat=true)
 |_=>false
def hd46:List UInt8→Bool
 |c::_=>decide (c.toNat=46)
 |[]=>false
def ptHead:List UInt8→Bool
 |a::b::_=>decide (a.toNat=46∧dg b.toNat=true)
 |_=>false
def mant (l:List UInt8):Nat:=
 if 0<spn dg l then(if hd46 (l.drop (spn dg l)) then spn dg l+1+spn dg (l.drop (spn dg l+1)) else spn dg l)
 else if ptHead l then 1+spn dg (l.drop 1) else 0
def pfx (l:List UInt8):Nat:=if hexHead l then 2+spn hx (l.drop 2) else if mant l=0 then 0 else mant l+exl (l.drop (mant l))
end PN
theorem digitsD0_any (s:ByteArray)(w:World)(hs:s.size≤1125899906842624) :
  Calls prog 142 #[.string s,.int .i64 0,.func (.func 143) #[] #[]] w fun e w'=>e=.returned (.int .i64 (PN.spn PN.dg s.data.toList:Int))∧w=w':=by
 have h:=digitsD_any s 0 w hs (Nat.zero_le _);rw[Nat.zero_add,List.drop_zero]at h;exact h
theorem digitsD1_any (s:ByteArray)(w:World)(hs:s.size≤1125899906842624)(h1:1≤s.size) :
  Calls prog 142 #[.string s,.int .i64 1,.func (.func 143) #[] #[]] w fun e w'=>e=.returned (.int .i64 ((1+PN.spn PN.dg (s.data.toList.drop 1):Nat):Int))∧w=w':=
 digitsD_any s 1 w hs h1
theorem digitsH2_any (s:ByteArray)(w:World)(hs:s.size≤1125899906842624)(h1:2≤s.size) :
  Calls prog 142 #[.string s,.int .i64 2,.func (.func 141) #[] #[]] w fun e w'=>e=.returned (.int .i64 ((2+PN.spn PN.hx (s.data.toList.drop 2):Nat):Int))∧w=w':=
 digitsH_any s 2 w hs h1
theorem list3 (s:ByteArray)(h:2<s.size):s.data.toList=s[0]::s[1]::s[2]::s.data.toList.drop 3:=by
 have h0:=data_drop' s 0 (by omega);have h1:=data_drop' s 1 (by omega);have h2:=data_drop' s 2 (by omega);rw[List.drop_zero]at h0;exact h0.trans (by rw[show (0+1:Nat)=1 from rfl,h1,show (1+1:Nat)=2 from rfl,h2])
theorem list2 (s:ByteArray)(h:1<s.size):s.data.toList=s[0]::s[1]::s.data.toList.drop 2:=by
 have h0:=data_drop' s 0 (by omega);have h1:=data_drop' s 1 (by omega);rw[List.drop_zero]at h0;exact h0.trans (by rw[show (0+1:Nat)=1 from rfl,h1])
theorem hexHead_short (l:List UInt8)(h:l.length≤2):PN.hexHead l=false:=by
 rcases l with _|⟨a,_|⟨b,_|⟨c,r⟩⟩⟩
 ·rfl
 ·rfl
 ·rfl
 ·simp at h
theorem ptHead_short (l:List UInt8)(h:l.length≤1):PN.ptHead l=false:=by
 rcases l with _|⟨a,_|⟨b,r⟩⟩
 ·rfl
 ·rfl
 ·simp at h
theorem prefix_any (s:ByteArray)(w:World)(hs:s.size≤1125899906842624) :
  Calls prog 117 #[.string s] w fun e w'=>e=.returned (.int .i64 (PN.pfx s.data.toList:Int))∧w=w':=by
 have HSZ:=hd (Lib.size_eq s);go_enter func117,ntmps117;go_upto_region 1 with fail
 go_cut [26] from 4 to 26 (fun v wx=>v=.bool (PN.hexHead s.data.toList)∧wx=w)
 case first=>
  by_cases h2:2<s.size
  ·have hl:=list3 s h2
   have hx:PN.hexHead s.data.toList=decide ((s[0]).toNat=48∧((s[1]).toNat=120∨(s[1]).toNat=88)∧PN.hx (s[2]).toNat=true):=(by rw[hl];rfl);have HX:=hd hx;clear hx hl;have hc2:(s[2]).toNat<256:=(s[2]).toNat_lt;by_cases a0:(s[0]).toNat=48
   ·have t0:(((s[0]).toNat:Int)==48)=true:=by rw[a0];rfl
    by_cases a1:(s[1]).toNat=120
    ·have t1:(((s[1]).toNat:Int)==120)=true:=by rw[a1];rfl
     have V:=hd (rfl:PN.hx (s[2]).toNat=PN.hx (s[2]).toNat);have HY:Hd (PN.hx (s[2]).toNat=PN.hexHead s.data.toList):=hd (by rw[HX.o,Bool.eq_iff_iff];simp[a0,a1]);clear a0 a1 HX;go_wp2_with (go_at_call 141;refine(nhex_any _ _ hc2).mono ?_;rintro e w' ⟨rfl,rfl⟩;rw[HY.o])
     go_meet;exact⟨rfl,rfl⟩
    ·have t1:(((s[1]).toNat:Int)==120)=false:=by rw[bf];omega
     by_cases a2:(s[1]).toNat=88
     ·have t2:(((s[1]).toNat:Int)==88)=true:=by rw[a2];rfl
      have HY:Hd (PN.hx (s[2]).toNat=PN.hexHead s.data.toList):=hd (by rw[HX.o,Bool.eq_iff_iff];simp[a0,a2]);clear a0 a1 a2 HX;go_wp2_with (go_at_call 141;refine(nhex_any _ _ hc2).mono ?_;rintro e w' ⟨rfl,rfl⟩;rw[HY.o])
      go_meet;exact⟨rfl,rfl⟩
     ·have t2:(((s[1]).toNat:Int)==88)=false:=by rw[bf];omega
      have HY:Hd (PN.hexHead s.data.toList=false):=hd (by rw[HX.o];simp[a1,a2]);clear a0 a1 a2 HX;go_wp2;go_meet;exact⟨by rw[HY.o],rfl⟩
   ·have t0:(((s[0]).toNat:Int)==48)=false:=by rw[bf];omega
    have HY:Hd (PN.hexHead s.data.toList=false):=hd (by rw[HX.o];simp[a0]);clear a0 HX;go_wp2;go_meet;exact⟨by rw[HY.o],rfl⟩
  ·have HY:Hd (PN.hexHead s.data.toList=false):=hd (hexHead_short _ (by have:=HSZ.o;omega))
   go_wp2;go_meet;exact⟨by rw[HY.o],rfl⟩
 case rest=>
  obtain⟨rfl,rfl⟩:=hcut;generalize hH:PN.hexHead s.data.toList=hh;cases hh with
  |true=>
   have h3:2<s.size:=by
    rcases Nat.lt_or_ge 2 s.size with c|c
    ·exact c
    ·rw[hexHead_short _ (by have:=HSZ.o;omega)]at hH;cases hH
   have HP:Hd (PN.pfx s.data.toList=2+PN.spn PN.hx (s.data.toList.drop 2)):=hd (by unfold PN.pfx;rw[if_pos hH]);have CH:=hd (digitsH2_any s wc hs (by omega));clear hH;go_wp2_with (go_at_call 142;refine CH.o.mono ?_;rintro e w' ⟨rfl,rfl⟩)
   go_ret;exact⟨ret_int (by have:=HP.o;omega),rfl⟩
  |false=>
   have HP:Hd (PN.pfx s.data.toList=if PN.mant s.data.toList=0 then 0 else PN.mant s.data.toList+PN.exl (s.data.toList.drop (PN.mant s.data.toList))):=hd (by unfold PN.pfx;rw[if_neg (by rw[hH];decide)]);clear hH;obtain⟨n,hn⟩:∃n,n=PN.spn PN.dg s.data.toList:=⟨_,rfl⟩
   have hnle:n≤s.size:=(by rw[hn,HSZ.o];exact PN.spn_le _ _);have CD0:=hd (digitsD0_any s wc hs);rw[←hn]at CD0;have HM:Hd (PN.mant s.data.toList=if 0<n then(if PN.hd46 (s.data.toList.drop n) then n+1+PN.spn PN.dg (s.data.toList.drop (n+1)) else n) else if PN.ptHead s.data.toList then 1+PN.spn PN.dg (s.data.toList.drop 1) else 0):=hd (by rw[hn];rfl);have HN:=hd hn;clear hn;by_cases hn0:0<n
   ·by_cases hlt:n<s.size
    ·have h46:Hd (PN.hd46 (s.data.toList.drop n)=decide ((s[n]'hlt).toNat=46)):=hd (by rw[data_drop' s n hlt];rfl)
     by_cases hp:(s[n]'hlt).toNat=46
     ·have t1:(((s[n]'hlt).toNat:Int)==46)=true:=by rw[hp];rfl
      obtain⟨m,hm⟩:∃m,m=n+1+PN.spn PN.dg (s.data.toList.drop (n+1)):=⟨_,rfl⟩
      have hmle:m≤s.size:=by
       have h1:=PN.spn_le PN.dg (s.data.toList.drop (n+1));rw[List.length_drop,←HSZ.o]at h1;omega
      have hm0:0<m:=(by omega);have CD1:Hd (Calls prog 142 #[.string s,.int .i64 ((n:Int)+1),.func (.func 143) #[] #[]] wc fun e w'=>e=.returned (.int .i64 (m:Int))∧wc=w'):=hd (by
       have h:=digitsD_any s (n+1) wc hs (by omega);rw[←hm]at h;exact h)
      have CE:=hd (exponent_any s m wc hs hmle);have HX:Hd (PN.pfx s.data.toList=m+PN.exl (s.data.toList.drop m)):=hd (by
       have e:PN.mant s.data.toList=m:=(by rw[HM.o,if_pos hn0,if_pos (by rw[h46.o];simpa using hp),hm]);rw[HP.o,e,if_neg (by omega)])
      have m1:((m:Int)==0)=false:=(by rw[bf];omega);clear hm hp h46 HM HP HN;go_wp2_with (first|(go_at_call 142;(with_reducible refine CD0.o.mono ?_);rintro e w' ⟨rfl,rfl⟩)|(go_at_call 142;(with_reducible refine CD1.o.mono ?_);rintro e w' ⟨rfl,rfl⟩)|(go_at_call 144;(with_reducible refine CE.o.mono ?_);rintro e w' ⟨rfl,rfl⟩))
      go_ret;exact⟨ret_int (by have:=HX.o;omega),rfl⟩
     ·have t1:(((s[n]'hlt).toNat:Int)==46)=false:=by rw[bf];omega
      have CE:=hd (exponent_any s n wc hs hnle);have HX:Hd (PN.pfx s.data.toList=n+PN.exl (s.data.toList.drop n)):=hd (by
       have e:PN.mant s.data.toList=n:=(by rw[HM.o,if_pos hn0,if_neg (by rw[h46.o];simpa using hp)]);rw[HP.o,e,if_neg (by omega)])
      have m1:((n:Int)==0)=false:=(by rw[bf];omega);clear hp h46 HM HP HN;go_wp2_with (first|(go_at_call 142;(with_reducible refine CD0.o.mono ?_);rintro e w' ⟨rfl,rfl⟩)|(go_at_call 144;(with_reducible refine CE.o.mono ?_);rintro e w' ⟨rfl,rfl⟩))
      go_ret;exact⟨ret_int (by have:=HX.o;omega),rfl⟩
    ·have CE:=hd (exponent_any s n wc hs hnle)
     have HX:Hd (PN.pfx s.data.toList=n+PN.exl (s.data.toList.drop n)):=hd (by
      have e:PN.mant s.data.toList=n:=by
       rw[HM.o,if_pos hn0,List.drop_eq_nil_of_le (by have:=HSZ.o;omega),if_neg (by decide)]
      rw[HP.o,e,if_neg (by omega)])
     have m1:((n:Int)==0)=false:=(by rw[bf];omega);clear HM HP HN;go_wp2_with (first|(go_at_call 142;(with_reducible refine CD0.o.mono ?_);rintro e w' ⟨rfl,rfl⟩)|(go_at_call 144;(with_reducible refine CE.o.mono ?_);rintro e w' ⟨rfl,rfl⟩))
     go_ret;exact⟨ret_int (by have:=HX.o;omega),rfl⟩
   ·have hz:n=0:=by omega
    subst hz;rw[if_neg hn0]at HM;clear hn0 hnle HN;have CD00:Hd (Calls prog 142 #[.string s,.int .i64 0,.func (.func 143) #[] #[]] wc fun e w'=>e=.returned (.int .i64 0)∧wc=w'):=hd CD0.o;clear CD0;by_cases h1:1<s.size
    ·have hl:=list2 s h1
     have hx:PN.ptHead s.data.toList=decide ((s[0]).toNat=46∧PN.dg (s[1]).toNat=true):=(by rw[hl];rfl);rw[hx]at HM;have hc1:(s[1]).toNat<256:=(s[1]).toNat_lt;clear hl hx;by_cases a0:(s[0]).toNat=46
     ·have t0:(((s[0]).toNat:Int)==46)=true:=by rw[a0];rfl
      cases hdg:PN.dg (s[1]).toNat with
      |true=>
       have V:=hd hdg;obtain⟨m,hm⟩:∃m,m=1+PN.spn PN.dg (s.data.toList.drop 1):=⟨_,rfl⟩
       have hmle:m≤s.size:=by
        have h1:=PN.spn_le PN.dg (s.data.toList.drop 1);rw[List.length_drop,←HSZ.o]at h1;omega
       have CD1:=hd (digitsD1_any s wc hs (by omega));rw[←hm]at CD1;have CE:=hd (exponent_any s m wc hs hmle);have HX:Hd (PN.pfx s.data.toList=m+PN.exl (s.data.toList.drop m)):=hd (by
        have e:PN.mant s.data.toList=m:=(by rw[HM.o,if_pos (by simp[a0,hdg]),hm]);rw[HP.o,e,if_neg (by omega)])
       have m1:((m:Int)==0)=false:=(by rw[bf];omega);clear hm a0 hdg HM HP;go_wp2_with (first|(go_at_call 142;(with_reducible refine CD00.o.mono ?_);rintro e w' ⟨rfl,rfl⟩)|(go_at_call 142;(with_reducible refine CD1.o.mono ?_);rintro e w' ⟨rfl,rfl⟩)|(go_at_call 144;(with_reducible refine CE.o.mono ?_);rintro e w' ⟨rfl,rfl⟩)|(go_at_call 143;(with_reducible refine(ndigit_any _ _ hc1).mono ?_);rintro e w' ⟨rfl,rfl⟩;rw[V.o]))
       go_ret;exact⟨ret_int (by have:=HX.o;omega),rfl⟩
      |false=>
       have V:=hd hdg;have HX:Hd (PN.pfx s.data.toList=0):=hd (by
        have e:PN.mant s.data.toList=0:=(by rw[HM.o,if_neg (by simp[hdg])]);rw[HP.o,if_pos e])
       clear a0 hdg HM HP;go_wp2_with (first|(go_at_call 142;(with_reducible refine CD00.o.mono ?_);rintro e w' ⟨rfl,rfl⟩)|(go_at_call 143;(with_reducible refine(ndigit_any _ _ hc1).mono ?_);rintro e w' ⟨rfl,rfl⟩;rw[V.o]))
       go_ret;exact⟨ret_int (by rw[HX.o];rfl),rfl⟩
     ·have t0:(((s[0]).toNat:Int)==46)=false:=by rw[bf];omega
      have HX:Hd (PN.pfx s.data.toList=0):=hd (by
       have e:PN.mant s.data.toList=0:=(by rw[HM.o,if_neg (by simp[a0])]);rw[HP.o,if_pos e])
      clear a0 HM HP;go_wp2_with (go_at_call 142;(with_reducible refine CD00.o.mono ?_);rintro e w' ⟨rfl,rfl⟩)
      go_ret;exact⟨ret_int (by rw[HX.o];rfl),rfl⟩
    ·have HX:Hd (PN.pfx s.data.toList=0):=hd (by
      have e:PN.mant s.data.toList=0:=(by rw[HM.o,ptHead_short _ (by have:=HSZ.o;omega),if_neg (by decide)]);rw[HP.o,if_pos e])
     clear HM HP;by_cases h0:0<s.size
     ·go_wp2_with (go_at_call 142;(with_reducible refine CD00.o.mono ?_);rintro e w' ⟨rfl,rfl⟩)
      all_goals
       go_ret;exact⟨ret_int (by rw[HX.o];rfl),rfl⟩
     ·go_wp2_with (go_at_call 142;(with_reducible refine CD00.o.mono ?_);rintro e w' ⟨rfl,rfl⟩)
      all_goals
       go_ret;exact⟨ret_int (by rw[HX.o];rfl),rfl⟩
end Go.Proofs.YtieknenhfeejiaaGreatDoor
