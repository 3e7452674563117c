/- The walks of utf.Literal: where a literal ends, by one word. The walk of utf. .. -/
import Derived.Test.YtieknenhfeejiaaGreatDoorUMa
import Derived.StillTailTactics
import Derived.Deep.RegionLaw
import Derived.Test.YtieknenhfeejiaaGreatDoorBase5
set_option maxHeartbeats 3200000
set_option linter.unusedVariables false
set_option linter.unusedSimpArgs false
namespace Go.Proofs.YtieknenhfeejiaaGreatDoor
open _root_.Go.Proofs.Tryz
open Go.RowKit
theorem ret_twoL {a b c d:Int}(h1:a=c)(h2:b=d):Ending.returned (.tuple #[.int .i64 a,.int .i64 b])=.returned (.tuple #[.int .i64 c,.int .i64 d]):=by rw[h1,h2]
theorem lit_34 (s:ByteArray)(i:Nat)(w:World)(hs:s.size≤1125899906842624)(hi:i<s.size)(hq:U.at' s i=34) :
  Calls prog 53 #[.string s,.int .i64 i] w fun e w'=>e=.returned (.tuple #[.int .i64 (U.litR (U.lit s 34 (i+1))).1,.int .i64 (U.litR (U.lit s 34 (i+1))).2])∧w=w':=by
 have hdd:decide (s.size≤i)=false:=(by simpa using hi);have hq':((s[i]'hi).toNat:Int)=34:=(by rw[←U.at_eq s i hi,hq];rfl);clear hq;go_enter func53,ntmps53;go_wp2
 go_loop [7] (fun x=>∃p:Nat,p≤s.size+1∧x=.int .i64 p∧Hd (U.lit s 34 p=U.lit s 34 (i+1))) (fun x=>s.size+1-(intOf x).toNat)
 case atStart=>exact⟨i+1,by omega,by go_num,hd rfl⟩
 case round=>
  obtain⟨p,hp,rfl,hl⟩:=hrel;by_cases hlt:p<s.size
  ·have ep:=U.at_eq s p hlt
   by_cases h1:U.at' s p=34
   ·have b1:(((s[p]'hlt).toNat:Int)==34)=true:=by rw[←ep,h1];rfl
    have G:Hd (U.litR (U.lit s 34 (i+1))=((p:Int)+1,0)):=hd <|by rw[←hl.o,U.lit_hit s 34 p hlt h1];rfl
    clear ep h1;go_wp2;go_ret2;exact⟨ret_twoL (by rw[G.o]) (by rw[G.o]),rfl⟩
   have b1:(((s[p]'hlt).toNat:Int)==34)=false:=(by rw[bf,←ep];omega);by_cases h2:U.at' s p=10
   ·have b2:(((s[p]'hlt).toNat:Int)==10)=true:=by rw[←ep,h2];rfl
    have G:Hd (U.litR (U.lit s 34 (i+1))=(0,10)):=hd <|by rw[←hl.o,U.lit_nl s 34 p hlt h1 (by omega) h2];rfl
    clear ep h1 h2;go_wp2;go_ret2;exact⟨ret_twoL (by rw[G.o]) (by rw[G.o]),rfl⟩
   have b2:(((s[p]'hlt).toNat:Int)==10)=false:=(by rw[bf,←ep];omega);by_cases h3:U.at' s p=92
   ·have b3:(((s[p]'hlt).toNat:Int)==92)=true:=by rw[←ep,h3];rfl
    by_cases h4:p+1<s.size
    ·have ep1:=U.at_eq s (p+1) h4
     by_cases h5:U.at' s (p+1)=10
     ·have b5:(((s[p+1]'h4).toNat:Int)==10)=true:=by rw[←ep1,h5];rfl
      have G:Hd (U.litR (U.lit s 34 (i+1))=(0,10)):=hd <|by rw[←hl.o,U.lit_esc_nl s 34 p h4 h1 (by omega) h3 h5];rfl
      clear ep ep1 h1 h2 h3 h5;go_wp2;go_ret2;exact⟨ret_twoL (by rw[G.o]) (by rw[G.o]),rfl⟩
     ·have b5:(((s[p+1]'h4).toNat:Int)==10)=false:=by rw[bf,←ep1];omega
      have G:Hd (U.lit s 34 (p+2)=U.lit s 34 (i+1)):=hd <|by rw[←hl.o,U.lit_esc s 34 p hlt h1 (by omega) h3 (fun h=>h5 h.2)]
      clear ep ep1 h1 h2 h3 h5;go_wp2
      go_round
      case rel=>exact⟨p+2,by omega,by go_num,G⟩
      case measure=>simp[intOf];omega
    ·have G:Hd (U.lit s 34 (p+2)=U.lit s 34 (i+1)):=hd <|by rw[←hl.o,U.lit_esc s 34 p hlt h1 (by omega) h3 (fun h=>h4 h.1)]
     clear ep h1 h2 h3;go_wp2
     go_round
     case rel=>exact⟨p+2,by omega,by go_num,G⟩
     case measure=>simp[intOf];omega
   ·have b3:(((s[p]'hlt).toNat:Int)==92)=false:=by rw[bf,←ep];omega
    have G:Hd (U.lit s 34 (p+1)=U.lit s 34 (i+1)):=hd <|by rw[←hl.o,U.lit_step s 34 p hlt h1 (by omega) h2 h3]
    clear ep h1 h2 h3;go_wp2
    go_round
    case rel=>exact⟨p+1,by omega,by go_num,G⟩
    case measure=>simp[intOf];omega
  ·have G:Hd (U.litR (U.lit s 34 (i+1))=(0,10)):=hd <|by rw[←hl.o,U.lit_end s 34 p hlt];rfl
   go_wp2;go_ret2;exact⟨ret_twoL (by rw[G.o]) (by rw[G.o]),rfl⟩
theorem lit_39 (s:ByteArray)(i:Nat)(w:World)(hs:s.size≤1125899906842624)(hi:i<s.size)(hq:U.at' s i=39) :
  Calls prog 53 #[.string s,.int .i64 i] w fun e w'=>e=.returned (.tuple #[.int .i64 (U.litR (U.lit s 39 (i+1))).1,.int .i64 (U.litR (U.lit s 39 (i+1))).2])∧w=w':=by
 have hdd:decide (s.size≤i)=false:=(by simpa using hi);have hq':((s[i]'hi).toNat:Int)=39:=(by rw[←U.at_eq s i hi,hq];rfl);clear hq;go_enter func53,ntmps53;go_wp2
 go_loop [7] (fun x=>∃p:Nat,p≤s.size+1∧x=.int .i64 p∧Hd (U.lit s 39 p=U.lit s 39 (i+1))) (fun x=>s.size+1-(intOf x).toNat)
 case atStart=>exact⟨i+1,by omega,by go_num,hd rfl⟩
 case round=>
  obtain⟨p,hp,rfl,hl⟩:=hrel;by_cases hlt:p<s.size
  ·have ep:=U.at_eq s p hlt
   by_cases h1:U.at' s p=39
   ·have b1:(((s[p]'hlt).toNat:Int)==39)=true:=by rw[←ep,h1];rfl
    have G:Hd (U.litR (U.lit s 39 (i+1))=((p:Int)+1,0)):=hd <|by rw[←hl.o,U.lit_hit s 39 p hlt h1];rfl
    clear ep h1;go_wp2;go_ret2;exact⟨ret_twoL (by rw[G.o]) (by rw[G.o]),rfl⟩
   have b1:(((s[p]'hlt).toNat:Int)==39)=false:=(by rw[bf,←ep];omega);by_cases h2:U.at' s p=10
   ·have b2:(((s[p]'hlt).toNat:Int)==10)=true:=by rw[←ep,h2];rfl
    have G:Hd (U.litR (U.lit s 39 (i+1))=(0,10)):=hd <|by rw[←hl.o,U.lit_nl s 39 p hlt h1 (by omega) h2];rfl
    clear ep h1 h2;go_wp2;go_ret2;exact⟨ret_twoL (by rw[G.o]) (by rw[G.o]),rfl⟩
   have b2:(((s[p]'hlt).toNat:Int)==10)=false:=(by rw[bf,←ep];omega);by_cases h3:U.at' s p=92
   ·have b3:(((s[p]'hlt).toNat:Int)==92)=true:=by rw[←ep,h3];rfl
    by_cases h4:p+1<s.size
    ·have ep1:=U.at_eq s (p+1) h4
     by_cases h5:U.at' s (p+1)=10
     ·have b5:(((s[p+1]'h4).toNat:Int)==10)=true:=by rw[←ep1,h5];rfl
      have G:Hd (U.litR (U.lit s 39 (i+1))=(0,10)):=hd <|by rw[←hl.o,U.lit_esc_nl s 39 p h4 h1 (by omega) h3 h5];rfl
      clear ep ep1 h1 h2 h3 h5;go_wp2;go_ret2;exact⟨ret_twoL (by rw[G.o]) (by rw[G.o]),rfl⟩
     ·have b5:(((s[p+1]'h4).toNat:Int)==10)=false:=by rw[bf,←ep1];omega
      have G:Hd (U.lit s 39 (p+2)=U.lit s 39 (i+1)):=hd <|by rw[←hl.o,U.lit_esc s 39 p hlt h1 (by omega) h3 (fun h=>h5 h.2)]
      clear ep ep1 h1 h2 h3 h5;go_wp2
      go_round
      case rel=>exact⟨p+2,by omega,by go_num,G⟩
      case measure=>simp[intOf];omega
    ·have G:Hd (U.lit s 39 (p+2)=U.lit s 39 (i+1)):=hd <|by rw[←hl.o,U.lit_esc s 39 p hlt h1 (by omega) h3 (fun h=>h4 h.1)]
     clear ep h1 h2 h3;go_wp2
     go_round
     case rel=>exact⟨p+2,by omega,by go_num,G⟩
     case measure=>simp[intOf];omega
   ·have b3:(((s[p]'hlt).toNat:Int)==92)=false:=by rw[bf,←ep];omega
    have G:Hd (U.lit s 39 (p+1)=U.lit s 39 (i+1)):=hd <|by rw[←hl.o,U.lit_step s 39 p hlt h1 (by omega) h2 h3]
    clear ep h1 h2 h3;go_wp2
    go_round
    case rel=>exact⟨p+1,by omega,by go_num,G⟩
    case measure=>simp[intOf];omega
  ·have G:Hd (U.litR (U.lit s 39 (i+1))=(0,10)):=hd <|by rw[←hl.o,U.lit_end s 39 p hlt];rfl
   go_wp2;go_ret2;exact⟨ret_twoL (by rw[G.o]) (by rw[G.o]),rfl⟩
theorem lit_96 (s:ByteArray)(i:Nat)(w:World)(hs:s.size≤1125899906842624)(hi:i<s.size)(hq:U.at' s i=96) :
  Calls prog 53 #[.string s,.int .i64 i] w fun e w'=>e=.returned (.tuple #[.int .i64 (U.litR (U.lit s 96 (i+1))).1,.int .i64 (U.litR (U.lit s 96 (i+1))).2])∧w=w':=by
 have hdd:decide (s.size≤i)=false:=(by simpa using hi);have hq':((s[i]'hi).toNat:Int)=96:=(by rw[←U.at_eq s i hi,hq];rfl);clear hq;go_enter func53,ntmps53;go_wp2
 go_loop [7] (fun x=>∃p:Nat,p≤s.size+1∧x=.int .i64 p∧Hd (U.lit s 96 p=U.lit s 96 (i+1))) (fun x=>s.size+1-(intOf x).toNat)
 case atStart=>exact⟨i+1,by omega,by go_num,hd rfl⟩
 case round=>
  obtain⟨p,hp,rfl,hl⟩:=hrel;by_cases hlt:p<s.size
  ·have ep:=U.at_eq s p hlt
   by_cases h1:U.at' s p=96
   ·have b1:(((s[p]'hlt).toNat:Int)==96)=true:=by rw[←ep,h1];rfl
    have G:Hd (U.litR (U.lit s 96 (i+1))=((p:Int)+1,0)):=hd <|by rw[←hl.o,U.lit_hit s 96 p hlt h1];rfl
    clear ep h1;go_wp2;go_ret2;exact⟨ret_twoL (by rw[G.o]) (by rw[G.o]),rfl⟩
   have b1:(((s[p]'hlt).toNat:Int)==96)=false:=(by rw[bf,←ep];omega);have G:Hd (U.lit s 96 (p+1)=U.lit s 96 (i+1)):=hd <|by rw[←hl.o,U.lit_raw s p hlt h1]
   clear ep h1;go_wp2
   go_round
   case rel=>exact⟨p+1,by omega,by go_num,G⟩
   case measure=>simp[intOf];omega
  ·have G:Hd (U.litR (U.lit s 96 (i+1))=(0,10)):=hd <|by rw[←hl.o,U.lit_end s 96 p hlt];rfl
   go_wp2;go_ret2;exact⟨ret_twoL (by rw[G.o]) (by rw[G.o]),rfl⟩
theorem lit_no (s:ByteArray)(i:Nat)(w:World)(hs:s.size≤1125899906842624)(hi:i<s.size)(hq:U.at' s i≠34∧U.at' s i≠39∧U.at' s i≠96) :
  Calls prog 53 #[.string s,.int .i64 i] w fun e w'=>e=.returned (.tuple #[.int .i64 0,.int .i64 10])∧w=w':=by
 have hdd:decide (s.size≤i)=false:=(by simpa using hi);have ep:=U.at_eq s i hi;have b1:(((s[i]'hi).toNat:Int)!=34)=true:=(by rw[bne_iff_ne,←ep];omega);have b2:(((s[i]'hi).toNat:Int)!=39)=true:=(by rw[bne_iff_ne,←ep];omega);have b3:(((s[i]'hi).toNat:Int)!=96)=true:=(by rw[bne_iff_ne,←ep];omega);clear ep hq;go_enter func53,ntmps53;go_wp2;go_ret2;exact⟨rfl,rfl⟩
theorem lit_any (s:ByteArray)(i:Int)(w:World)(hs:s.size≤1125899906842624) :
  Calls prog 53 #[.string s,.int .i64 i] w fun e w'=>e=.returned (.tuple #[.int .i64 (U.literal s i).1,.int .i64 (U.literal s i).2])∧w=w':=by
 by_cases h0:i<0
 ·rw[U.literal_out s i (.inl h0)]
  go_enter func53,ntmps53;go_wp2;go_ret2;exact⟨rfl,rfl⟩
 by_cases h1:(s.size:Int)≤i
 ·rw[U.literal_out s i (.inr h1)]
  go_enter func53,ntmps53;go_wp2;go_ret2;exact⟨rfl,rfl⟩
 obtain⟨n,hn⟩:=Int.eq_ofNat_of_zero_le (show 0≤i by omega);have hn':i=(n:Int):=hn;subst hn';have hi:n<s.size:=(by omega);by_cases hq:U.at' s n=34∨U.at' s n=39∨U.at' s n=96
 ·rw[U.literal_in s n hi hq]
  rcases hq with h|h|h<;>rw[h]
  ·exact lit_34 s n w hs hi h
  ·exact lit_39 s n w hs hi h
  ·exact lit_96 s n w hs hi h
 ·rw[U.literal_no s n hi (by omega)]
  exact lit_no s n w hs hi (by omega)
def strR (r:List UInt8×Int):Ending:=.returned (.tuple #[.string ⟨r.1.toArray⟩,.int .i64 r.2])
theorem ret_strR {a:ByteArray}{b:Int}{r:List UInt8×Int}(h1:a.data.toList=r.1)(h2:b=r.2):Ending.returned (.tuple #[.string a,.int .i64 b])=strR r:=by
 unfold strR;rw[h2,←h1]
theorem unquote_utf (s:ByteArray)(w:World)(hs:s.size≤140737488351232)(hv:U.valid s=false) :
  Calls prog 23 #[.string s] w fun e w'=>e=strR (U.unquote s)∧Below w.heap.size w w':=by
 have V:=hd hv;have G:Hd (U.unquote s=([],4)):=hd <|by unfold U.unquote;rw[if_pos hv]
 clear hv;go_enter func23,ntmps23;go_wp2_with (go_at_call 45;refine(Valid_any _ _ (by omega)).mono ?_;rintro e w1 ⟨rfl,hb1⟩;rw[V.o])
 go_ret2;exact⟨ret_strR (by rw[G.o]) (by rw[G.o]),by assumption⟩
theorem unquote_lit (s:ByteArray)(w:World)(hs:s.size≤140737488351232)(hv:U.valid s=true)(hl:U.literal s 0≠((s.size:Int),0)) :
  Calls prog 23 #[.string s] w fun e w'=>e=strR (U.unquote s)∧Below w.heap.size w w':=by
 have V:=hd hv;have G:Hd (U.unquote s=([],10)):=hd <|by unfold U.unquote;rw[if_neg (by simp[hv]),if_pos hl]
 clear hv;by_cases h2:(U.literal s 0).2=0
 ·have h1:((U.literal s 0).1!=(s.size:Int))=true:=by
   rw[bne_iff_ne];intro h;exact hl (Prod.ext h h2)
  have h2':((U.literal s 0).2!=0)=false:=(by rw[h2];rfl);clear hl h2;go_enter func23,ntmps23;go_wp2_with (first
   |(go_at_call 45;refine(Valid_any _ _ (by omega)).mono ?_;rintro e w1 ⟨rfl,hb1⟩;rw[V.o])
   |(go_at_call 53;refine(lit_any s 0 _ (by omega)).mono ?_;rintro e w' ⟨rfl,rfl⟩))
  go_ret2;exact⟨ret_strR (by rw[G.o]) (by rw[G.o]),by assumption⟩
 ·have h2':((U.literal s 0).2!=0)=true:=by rw[bne_iff_ne];exact h2
  clear hl h2;go_enter func23,ntmps23;go_wp2_with (first
   |(go_at_call 45;refine(Valid_any _ _ (by omega)).mono ?_;rintro e w1 ⟨rfl,hb1⟩;rw[V.o])
   |(go_at_call 53;refine(lit_any s 0 _ (by omega)).mono ?_;rintro e w' ⟨rfl,rfl⟩))
  go_ret2;exact⟨ret_strR (by rw[G.o]) (by rw[G.o]),by assumption⟩
theorem U.lit_facts (s:ByteArray)(hl:U.literal s 0=((s.size:Int),0)):2≤s.size∧(U.at' s 0=34∨U.at' s 0=39∨U.at' s 0=96):=by
 by_cases h0:s.size=0
 ·rw[U.literal_out s 0 (.inr (by omega))]at hl;have:=congrArg Prod.snd hl;simp[U.litR]at this
 by_cases hq:U.at' s 0=34∨U.at' s 0=39∨U.at' s 0=96
 ·have h:=U.literal_in s 0 (by omega) hq
  have h':U.literal s ((0:Nat):Int)=((s.size:Int),0):=hl;rw[h']at h;cases hc:U.lit s (U.at' s 0) 1 with
  |none=>rw[show (0+1:Nat)=1 from rfl,hc]at h;have:=congrArg Prod.snd h;simp[U.litR]at this
  |some n=>
   rw[show (0+1:Nat)=1 from rfl,hc]at h;have:=U.lit_gt s _ _ 1 n rfl hc;have e:(s.size:Int)=(n:Int):=congrArg Prod.fst h;exact⟨by omega,hq⟩
 ·have h:=U.literal_no s 0 (by omega) (by omega)
  have h':U.literal s ((0:Nat):Int)=((s.size:Int),0):=hl;rw[h']at h;have:=congrArg Prod.snd h;simp[U.litR]at this
theorem unquote_raw (s:ByteArray)(w:World)(hs:s.size≤140737488351232)(hv:U.valid s=true)(hl:U.literal s 0=((s.size:Int),0))(hq:U.at' s 0=96) :
  Calls prog 23 #[.string s] w fun e w'=>e=strR (U.unquote s)∧Below w.heap.size w w':=by
 have V:=hd hv;have L:=hd hl;obtain⟨h2,_⟩:=U.lit_facts s hl;have G:Hd (U.unquote s=((s.extract 1 (s.size-1)).data.toList,0)):=hd <|by
  unfold U.unquote;rw[if_neg (by simp[hv]),if_neg (by simp[hl]),if_pos hq,U.ext_mid s h2]
 have e0:=U.at_eq s 0 (by omega);have hq':((s[0]'(by omega)).toNat:Int)=96:=(by rw[←e0,hq];rfl);have hz:((s.size:Int)-1).toNat=s.size-1:=(by omega);have hi1:(0:Int)<(s.size:Int):=(by omega);have hi2:(1:Int)≤(s.size:Int)-1:=(by omega);clear hv hl hq e0;go_enter func23,ntmps23;go_wp2_with (first
   |(go_at_call 45;refine(Valid_any _ _ (by omega)).mono ?_;rintro e w1 ⟨rfl,hb1⟩;rw[V.o])
   |(go_at_call 53;refine(lit_any s 0 _ (by omega)).mono ?_;rintro e w' ⟨rfl,rfl⟩;rw[L.o]))
 go_quiet (fail)
 go_wp2;go_ret2;exact⟨ret_strR (by rw[G.o]) (by rw[G.o]),bel_drew (by assumption) _⟩
theorem unquote_esc (s:ByteArray)(w:World)(hs:s.size≤140737488351232)(hv:U.valid s=true)(hl:U.literal s 0=((s.size:Int),0))(q:Nat)(hq:q=34∨q=39)(hq0:U.at' s 0=q) :
  Calls prog 23 #[.string s] w fun e w'=>e=strR (U.unquote s)∧Below w.heap.size w w':=by
 have V:=hd hv;have L:=hd hl;obtain⟨h2,_⟩:=U.lit_facts s hl;have hG:U.unquote s=U.unqR (U.unq q (s.extract 1 (s.size-1)).data.toList):=by
  unfold U.unquote;rw[if_neg (by simp[hv]),if_neg (by simp[hl]),if_neg (by omega),hq0,U.ext_mid s h2]
 have e0:=U.at_eq s 0 (by omega);have hq':((s[0]'(by omega)).toNat:Int)=(q:Int):=(by rw[←e0,hq0]);have hq96:((q:Int)==96)=false:=(by rw[bf];omega);have hz:((s.size:Int)-1).toNat=s.size-1:=(by omega);have hi1:(0:Int)<(s.size:Int):=(by omega);have hi2:(1:Int)≤(s.size:Int)-1:=(by omega);have hzt:(s.extract 1 (s.size-1)).size=s.size-2:=(by rw[ByteArray.size_extract];omega);have HG:=hd hG;have hQ:=hd hq;have HZT:=hd hzt;clear hv hl hq e0 hG hq0 hzt;go_enter func23,ntmps23;go_wp2_with (first
   |(go_at_call 45;refine(Valid_any _ _ (by omega)).mono ?_;rintro e w1 ⟨rfl,hb1⟩;rw[V.o])
   |(go_at_call 53;refine(lit_any s 0 _ (by omega)).mono ?_;rintro e w' ⟨rfl,rfl⟩;rw[L.o]))
 go_quiet (fail)
 have hb1:Below w.heap.size w w1:=(by assumption);have HB1:=hd (bel_drew hb1 0);have hz1:=hb1.size;go_wp2_with (at_make;refine wpList_mk0 _ 63 5 (.int .u8 0) 1 1 underlying63 info_u8 rfl _ _ rfl w.heap.size _ _ _ rfl rfl ?b1 ?b2 ?b3 ?_)
 case b1=>omega
 case b2=>omega
 case b3=>exact hz1
 intro w2 ho hg;have hb2:Below w.heap.size w w2:=bel_grown (bel_drew hb1 _) hg (fun k h=>by cases h);have hz2:=hb2.size;clear hg;go_wp2;generalize hT:s.extract 1 (s.size-1)=t at *;clear hT;have hzt:=HZT.o;have HZ:=hd hzt;have hts:t.size≤140737488351232:=(by omega);clear hzt;go_loopw [8,9] (fun v x wr=>∃(p:Nat) (bs:List UInt8),p≤t.size∧x=.int .i64 p∧wr.ownsRow w.heap.size 5 1 v bs.length (cellsB bs)∧Below w.heap.size w wr∧bs.length≤p∧Hd ((U.unq q (t.data.toList.drop p)).map (bs++·)=U.unq q t.data.toList)) (fun _ x _=>t.size-(intOf x).toNat)
 case atStart=>exact⟨0,[],Nat.zero_le _,rfl,ho,hb2,Nat.le_refl _,hd (by simp)⟩
 case round=>
  obtain⟨p,bs,hp,rfl,how,hbw,hlen,hr⟩:=hrel;have hzr:=hbw.size;by_cases hlt:p<t.size
  ·obtain⟨c,hc,hdc⟩:=U.drop_cons t p hlt
   have eat:=U.at_eq t p hlt;by_cases h92:U.at' t p=92
   ·have b92:(((t[p]'hlt).toNat:Int)!=92)=false:=by rw[←eat,h92];rfl
    have hed:(t.extract (p+1) t.size).data.toList=t.data.toList.drop (p+1):=U.ext_drop t (p+1);have hes:(t.extract (p+1) t.size).size≤1125899906842624:=(by rw[ByteArray.size_extract];omega);cases he:U.escL q (t.data.toList.drop (p+1)) with
    |none=>
     have E:Hd (U.escL q (t.extract (p+1) t.size).data.toList=none):=hd <|by rw[hed,he]
     have G:Hd (U.unquote s=([],11)):=hd <|by
      rw[HG.o,←hr.o,hdc,U.unq_none q c _ (by rw[hc,h92]) he];rfl
     clear he hed hdc hc h92 eat hr;go_wp2_with (go_at_call 54;refine(escape_any q hQ.o (t.extract (p+1) t.size) hes w.heap.size u8 bs.length (cellsB bs) wr how hzr (by omega)).mono ?_;intro e w3 hpost;unfold EscPost at hpost;rw[E.o]at hpost;obtain⟨rfl,hb3⟩:=hpost)
     go_ret2;exact⟨ret_strR (by rw[G.o]) (by rw[G.o]),bel hbw (by assumption)⟩
    |some r=>
     obtain⟨es,k⟩:=r;have hk:=U.escL_len q _ es k he;have hdl:(t.data.toList.drop (p+1)).length=t.size-(p+1):=(by rw[List.length_drop,←Lib.size_eq]);have E:Hd (U.escL q (t.extract (p+1) t.size).data.toList=some (es,k)):=hd <|by rw[hed,he]
     have G:Hd ((U.unq q (t.data.toList.drop (p+1+k))).map ((bs++es)++·)=U.unq q t.data.toList):=hd <|by
      rw[←hr.o,hdc,U.unq_some q c _ (by rw[hc,h92]) es k he,List.drop_drop,Option.map_map];congr 1
      funext x
      simp
     have hk0:((k:Int)==0)=false:=(by rw[bf];omega);have hkb:p+1+k≤t.size:=(by omega);have hkl:bs.length+es.length≤p+1+k:=(by omega);clear he hed hdc hc h92 eat hr hdl;go_wp2_with (go_at_call 54;refine(escape_any q hQ.o (t.extract (p+1) t.size) hes w.heap.size u8 bs.length (cellsB bs) wr how hzr (by omega)).mono ?_;intro e w3 hpost;unfold EscPost at hpost;rw[E.o]at hpost;obtain⟨v3,rfl,ho3,hg3⟩:=hpost)
     have HO:Hd (w3.ownsRow w.heap.size 5 1 v3 (bs++es).length (cellsB (bs++es))):=hd <|by rw[cellsB_app,List.length_append];assumption
     have hb3:Below w.heap.size w w3:=bel_grown hbw (by assumption) (fun g hg'=>(how.lt g hg').1);go_roundw
     case rel=>exact⟨p+1+k,bs++es,hkb,by go_num,HO.o,hb3,by rw[List.length_append];exact hkl,G⟩
     case measure=>simp[intOf];omega
   ·have b92:(((t[p]'hlt).toNat:Int)!=92)=true:=by rw[bne_iff_ne,←eat];omega
    have G:Hd ((U.unq q (t.data.toList.drop (p+1))).map ((bs++[c])++·)=U.unq q t.data.toList):=hd <|by
     rw[←hr.o,hdc,U.unq_plain q c _ (by rw[hc];exact h92),Option.map_map];congr 1
     funext x
     simp
    have heq:((t[p]'hlt).toNat:Int)=(U.at' t p:Int):=(by rw[eat]);have hcc:Hd (cellsB (bs++[c])=cellsB bs++[.int .u8 (U.at' t p:Int)]):=hd <|by rw[cellsB_app];simp only[cellsB,List.map_cons,List.map_nil];rw[hc]
    rw[heq]at b92;clear hdc hc h92 eat hr;go_wp2_with (at_builtin;refine wpList_app_lit 63 5 (.int .u8 0) 1 1 underlying63 info_u8 rfl (by decide) rfl _ _ rfl w.heap.size u8 bs.length (cellsB bs) wr #[.int .u8 (U.at' t p:Int)] 1 rfl rfl how rfl ?_ ?_ ?_ hzr ?_)
    any_goals (first|omega|(simp[Value.oneCell'];done))
    intro v3 w3 ho3 hg3;have HO:Hd (w3.ownsRow w.heap.size 5 1 v3 (bs++[c]).length (cellsB (bs++[c]))):=hd <|by rw[hcc.o,List.length_append];exact ho3
    have hb3:Below w.heap.size w w3:=bel_grown hbw hg3 (fun g hg'=>(how.lt g hg').1);clear ho3 hg3;go_wp2;go_roundw
    case rel=>exact⟨p+1,bs++[c],by omega,by go_num,HO.o,hb3,by rw[List.length_append];simp;omega,G⟩
    case measure=>simp[intOf];omega
  ·have G:Hd (U.unquote s=if U.valid ⟨bs.toArray⟩ then(bs,0) else([],13)):=hd <|by
    rw[HG.o,←hr.o,List.drop_of_length_le (by rw[←Lib.size_eq];omega),U.unq_nil,Option.map_some,List.append_nil];rfl
   have io:=IsL.own how;have hcv:=run_string_of wr 63 9 5 underlying63 underlying5 underlying9 u8 bs.length bs io;have hcv2:∀W:World,Below wr.heap.size wr W→(convert 63 9 u8).run prog W=.ok (.string ⟨bs.toArray⟩) W:=fun W hW=>run_string_of W 63 9 5 underlying63 underlying5 underlying9 u8 bs.length bs (io.below hW)
   have hbz:(⟨bs.toArray⟩:ByteArray).size≤1125899906842624:=by
    have:(⟨bs.toArray⟩:ByteArray).size=bs.length:=(by rw[Lib.size_eq]);omega
   clear hr io;cases hvb:U.valid ⟨bs.toArray⟩ with
   |true=>
    have VB:=hd hvb;have G2:Hd (U.unquote s=(bs,0)):=hd <|by rw[G.o,hvb];rfl
    clear hvb G;go_wp2_with (go_at_call 45;refine(Valid_any _ _ hbz).mono ?_;rintro e w3 ⟨rfl,hb3⟩;rw[VB.o])
    go_ret2;exact⟨ret_strR (by rw[G2.o]) (by rw[G2.o]),bel hbw (by assumption)⟩
   |false=>
    have VB:=hd hvb;have G2:Hd (U.unquote s=([],13)):=hd <|by rw[G.o,hvb];rfl
    clear hvb G;go_wp2_with (go_at_call 45;refine(Valid_any _ _ hbz).mono ?_;rintro e w3 ⟨rfl,hb3⟩;rw[VB.o])
    go_ret2;exact⟨ret_strR (by rw[G2.o]) (by rw[G2.o]),bel hbw (by assumption)⟩
theorem unquote_any (s:ByteArray)(w:World)(hs:s.size≤140737488351232) :
  Calls prog 23 #[.string s] w fun e w'=>e=strR (U.unquote s)∧Below w.heap.size w w':=by
 cases hv:U.valid s with
 |false=>exact unquote_utf s w hs hv
 |true=>
  by_cases hl:U.literal s 0=((s.size:Int),0)
  ·rcases (U.lit_facts s hl).2 with h|h|h
   ·exact unquote_esc s w hs hv hl 34 (.inl rfl) h
   ·exact unquote_esc s w hs hv hl 39 (.inr rfl) h
   ·exact unquote_raw s w hs hv hl h
  ·exact unquote_lit s w hs hv hl
theorem and15 (r:Int)(h0:0≤r)(h1:r≤2147483647):bits .and .i32 r 15=r%16:=by
 obtain⟨n,rfl⟩:=Int.eq_ofNat_of_zero_le h0;have h:=i32_and_nat n 15 (by omega) (by omega);have h2:n &&& 15=n%16:=Nat.and_two_pow_sub_one_eq_mod n 4;rw[h2]at h;exact h.trans (by omega)
theorem U.hxN_lt:∀i,i<16→U.hxN i<256:=by decide
theorem hexAt:∀(i:Nat) (h:i<(⟨#[48,49,50,51,52,53,54,55,56,57,97,98,99,100,101,102]⟩:ByteArray).size),((⟨#[48,49,50,51,52,53,54,55,56,57,97,98,99,100,101,102]⟩:ByteArray)[i]'h).toNat=U.hxN i:=by
 have:∀i:Fin 16,((⟨#[48,49,50,51,52,53,54,55,56,57,97,98,99,100,101,102]⟩:ByteArray)[i.val]'i.isLt).toNat=U.hxN i:=by decide +kernel
 exact fun i h=>this ⟨i,h⟩
theorem run_hex (k:IntKind)(n:Int)(h0:0≤n)(h1:n<16)(w:World) :
  (Instr.index 9 (.string ⟨#[48,49,50,51,52,53,54,55,56,57,97,98,99,100,101,102]⟩) (.int k n)).run prog w=.ok (.int .u8 (U.hxN n.toNat:Int)) w:=by
 have hz:((⟨#[48,49,50,51,52,53,54,55,56,57,97,98,99,100,101,102]⟩:ByteArray).size)=16:=rfl;rw[run_index_string _ _ _ _ _ underlying9];rw[dif_pos (show 0≤n∧n<_ by rw[hz];omega)];rw[hexAt]
section
variable {P:Program} {ops:Array Oper} {o:Oper} {a:Act} {K:Act→World→Prop} {Q:Exit→Act→World→Prop} {E:Prop}
theorem step_app_lit (t e:TypeId)(z:Value)(size bytes:Nat)(ht:P.underlying t=some (.slice e))(hinfo:(P.info? e).map (fun i=>(i.zero,i.size,i.bytes))=some (some z,size,bytes))(hzs:z.cells.size=size)(hsz:0<size)
  (hgd:o.guard=none)(s x:Operand)(ho:o.op=.call { callee:=.builtin .append,args:=#[s,x],argTypes:=#[t,t] })
  (B:Nat)(v:Value)(n:Nat)(xs:List Value)(W:World)(C:Array Value)(m:Nat)(hs:a.eval s=v)(hx:a.eval x=.slice (some ⟨W.heap.size,0,none⟩) m m)
  (hown:W.ownsRow B e size v n xs)(hC:C.size=m*size)(h1:∀u∈C.toList,u.oneCell'=true)(hb:(n+m)*bytes≤140737488355328)(hn:n+m≤140737488355328)(hB:B≤W.heap.size)
  (h:∀v' w',w'.ownsRow B e size v' (n+m) (xs++C.toList)→W.grownBy w' v.ownBlock→K (a.put o.dst v') w') :
  if Region.wanted o (yielded ops a.tmps)=true then Oper.wp P o a (W.alloc (.cells C e)).drew K Q else E:=by
 have hw:Region.wanted o (yielded ops a.tmps)=true:=(by simp[Region.wanted,hgd]);rw[if_pos hw];obtain⟨i,hi,hz0,hz1,hz2⟩:=info_parts hinfo;obtain⟨v',w',hrun,h2,h3,_,h5⟩:=run_append_own_at (P:=P) (W.alloc (.cells C e)).drew B t o.type e i z size bytes ht hi hz0 hz1 hz2 hzs hsz v n xs (hown.alloc _).drew ⟨W.heap.size,0,none⟩ m m C.toList (by simpa using hC) (by
  intro j u hj;rw[add_plain,Nat.zero_add]
  change (W.alloc (.cells C e)).cell? _=_
  rw[World.cell?_alloc_mark];simpa using hj) h1 (by unfold maxLen;omega) hb (by change B≤(W.alloc (.cells C e)).heap.size;simp;omega)
 unfold Oper.wp execOp;simp only[ho,resolve,invoke,builtin,Sem.run_bind,Sem.run_pure,Result.andThen_ok,List.map_toArray,List.map_cons,List.map_nil,hs,hx,hrun];exact h v' w' h2 (grown_of_alloc (W:=W) (ob:=.cells C e) ⟨h3.os,h3.tape,h3.output,h3.size,h3.block⟩)
end
theorem quote_no (s:ByteArray)(w:World)(hs:s.size≤8388608)(hv:U.valid s=false) :
  Calls prog 32 #[.string s] w fun e w'=>e=strR (U.wrS U.wrQ s)∧Below w.heap.size w w':=by
 have V:=hd hv;have G:Hd (U.wrS U.wrQ s=([],4)):=hd <|by unfold U.wrS;rw[if_neg (by simp[hv])]
 clear hv;go_enter func32,ntmps32;go_wp2_with (go_at_call 45;refine(Valid_any _ _ (by omega)).mono ?_;rintro e w1 ⟨rfl,hb1⟩;rw[V.o])
 go_ret2;exact⟨ret_strR (by rw[G.o]) (by rw[G.o]),by assumption⟩
theorem quote_yes (s:ByteArray)(w:World)(hs:s.size≤8388608)(hv:U.valid s=true) :
  Calls prog 32 #[.string s] w fun e w'=>e=strR (U.wrS U.wrQ s)∧Below w.heap.size w w':=by
 have V:=hd hv;have HG:Hd (U.wrS U.wrQ s=(34::s.data.toList.flatMap U.wrQ++[34],0)):=hd <|by unfold U.wrS;rw[if_pos hv]
 have HV:Hd (U.vfrom s 0=true):=hd hv;clear hv;go_enter func32,ntmps32;go_wp2_with (go_at_call 45;refine(Valid_any _ _ (by omega)).mono ?_;rintro e w1 ⟨rfl,hb1⟩;rw[V.o])
 have hb1:Below w.heap.size w w1:=(by assumption);have hz1:=hb1.size;have ho0:(w1.alloc (.cells #[.int .u8 34] 5)).ownsRow w.heap.size 5 1 (.slice (some ⟨w1.heap.size,0,none⟩) 1 1) 1 (cellsB [34]):=World.ownsRow_lit w1 #[.int .u8 34] 1 hz1 (by decide) rfl;obtain⟨kk,hkk⟩:∃kk,kk=(w1.alloc (.cells #[.int .u8 34] 5)).heap.size:=⟨_,rfl⟩
 have hkz:w.heap.size≤kk:=(by rw[hkk];simp;omega);have HIT0:Hd (((w1.alloc (.cells #[.int .u8 34] 5)).iter s 0).heap[kk]?=some (.stringIter s 0)):=hd <|by rw[hkk];exact World.iter_heap _ _ _
 have HB0:Hd (Below w.heap.size w ((w1.alloc (.cells #[.int .u8 34] 5)).iter s 0)):=hd ((hb1.alloc hz1 _).alloc (by simp;omega) _);have HO0:=hd (ho0.alloc (.stringIter s 0));have hkk':w1.heap.size+1=kk:=(by rw[hkk];simp);clear ho0 hb1 hkk;rw[hkk'];go_loopw [4] (fun v wr=>∃(p:Nat) (bs:List UInt8),p≤s.size∧wr.heap[kk]?=some (.stringIter s p)∧wr.ownsRow w.heap.size 5 1 v bs.length (cellsB bs)∧Below w.heap.size w wr∧Hd (bs=34::(s.data.toList.take p).flatMap U.wrQ)∧Hd (U.vfrom s p=true)) (fun _ wr=>s.size-wr.iterPos kk)
 case atStart=>exact⟨0,[34],Nat.zero_le _,HIT0.o,HO0.o,HB0.o,hd rfl,HV⟩
 case round=>
  obtain⟨p,bs,hpos,hit,how,hbw,hr,hvp⟩:=hrel;have hsz:kk<wr.heap.size:=(Array.getElem?_eq_some_iff.1 hit).1;have hbl:bs.length≤6*s.size+1:=by
   have:=U.flat_len U.wrQ U.wrQ_len (s.data.toList.take p);rw[hr.o,List.length_cons];rw[List.length_take,←Lib.size_eq]at this;omega
  by_cases hp:p<s.size
  ·have hnx:∀ty,(Instr.next (.pointer (some ⟨kk,0,none⟩)) true ty).run prog wr=_:=fun ty=>Lib.run_next_any_at wr kk s p ty hit hp
   have hb1:=decode_le s p;have hdp:=U.dec_pos s p;have hle:=U.dec_le s p hp;have gg:=U.vf_good s p hp hvp.o;have GV:Hd (U.vfrom s (p+(Utf8.decode s p).2)=true):=hd gg.2;have GB:Hd (U.bad s p=false):=hd gg.1;clear gg;have hit2:=Lib.iterAt_heap wr kk s p (p+(Utf8.decode s p).2) hit;have how2:=own_iterAt how hit (p+(Utf8.decode s p).2);have hbw2:=Lib.below_iterAt hbw (k:=kk) hkz s (p+(Utf8.decode s p).2);have hzz:w.heap.size≤(wr.iterAt kk s (p+(Utf8.decode s p).2)).heap.size:=hbw2.size;have HIT:=hd hit2;have HIP:=hd (iterPos_of hit);have HBW:=hd hbw2;have HNE:=hd (own_ne_iter how2 hit2)
   have hbl2:bs.length≤50331649:=(by omega);clear hit hit2 hbw2 hbl;by_cases hlow:(Utf8.decode s p).1<128
   ·have hstep:=U.flat_low U.wrQ s p hp GB.o hlow
    unfold U.run at hstep;by_cases hA:(Utf8.decode s p).1=34∨(Utf8.decode s p).1=92
    ·rw[U.wrQ_back _ (by omega) hA]at hstep
     have G:Hd (bs++[92,UInt8.ofNat (Utf8.decode s p).1]=34::(s.data.toList.take (p+(Utf8.decode s p).2)).flatMap U.wrQ):=hd <|by rw[hstep,hr.o];rfl
     have HNEW:Hd (cellsB [92,UInt8.ofNat (Utf8.decode s p).1]=[.int .u8 92,.int .u8 (Utf8.decode s p).1]):=hd <|by simp only[cellsB,List.map_cons,List.map_nil];rw[U.ofNat_toNat _ (by omega)];rfl
     have hm:((Utf8.decode s p).1:Int)%256=(Utf8.decode s p).1:=(by omega);clear hstep;rcases hA with hA|hA
     ·have b1:(((Utf8.decode s p).1:Int)==34)=true:=by rw[hA];rfl
      clear hA;go_wp2_with (at_builtin;refine wpList_app_lit 63 5 (.int .u8 0) 1 1 underlying63 info_u8 rfl (by decide) rfl _ _ rfl w.heap.size u4 bs.length (cellsB bs) (wr.iterAt kk s (p+(Utf8.decode s p).2)) #[.int .u8 92,.int .u8 (Utf8.decode s p).1] 2 rfl rfl how2 rfl ?_ ?_ ?_ hzz ?_)
      any_goals (first|omega|(simp[Value.oneCell'];done))
      intro v' w' ho' hg';have hit':=hd (grown_keep hg' HIT.o HNE.o);have hbw':=bel_grown HBW.o hg' (fun k hk=>(how2.lt k hk).1);have HO:Hd (w'.ownsRow w.heap.size 5 1 v' (bs++[92,UInt8.ofNat (Utf8.decode s p).1]).length (cellsB (bs++[92,UInt8.ofNat (Utf8.decode s p).1]))):=hd <|by
       rw[cellsB_app,List.length_append,HNEW.o];exact ho'
      clear how how2 ho' hg';go_wp2;go_roundw
      case rel=>exact⟨p+(Utf8.decode s p).2,bs++[92,UInt8.ofNat (Utf8.decode s p).1],hle,hit'.o,HO.o,hbw',G,GV⟩
      case measure=>rw[iterPos_of hit'.o,HIP.o];omega
     ·have b1:(((Utf8.decode s p).1:Int)==34)=false:=by rw[hA];rfl
      have b2:(((Utf8.decode s p).1:Int)==92)=true:=(by rw[hA];rfl);clear hA;go_wp2_with (at_builtin;refine wpList_app_lit 63 5 (.int .u8 0) 1 1 underlying63 info_u8 rfl (by decide) rfl _ _ rfl w.heap.size u4 bs.length (cellsB bs) (wr.iterAt kk s (p+(Utf8.decode s p).2)) #[.int .u8 92,.int .u8 (Utf8.decode s p).1] 2 rfl rfl how2 rfl ?_ ?_ ?_ hzz ?_)
      any_goals (first|omega|(simp[Value.oneCell'];done))
      intro v' w' ho' hg';have hit':=hd (grown_keep hg' HIT.o HNE.o);have hbw':=bel_grown HBW.o hg' (fun k hk=>(how2.lt k hk).1);have HO:Hd (w'.ownsRow w.heap.size 5 1 v' (bs++[92,UInt8.ofNat (Utf8.decode s p).1]).length (cellsB (bs++[92,UInt8.ofNat (Utf8.decode s p).1]))):=hd <|by
       rw[cellsB_app,List.length_append,HNEW.o];exact ho'
      clear how how2 ho' hg';go_wp2;go_roundw
      case rel=>exact⟨p+(Utf8.decode s p).2,bs++[92,UInt8.ofNat (Utf8.decode s p).1],hle,hit'.o,HO.o,hbw',G,GV⟩
      case measure=>rw[iterPos_of hit'.o,HIP.o];omega
    by_cases hB:7≤(Utf8.decode s p).1∧(Utf8.decode s p).1≤13
    ·rw[U.wrQ_let _ (by omega) hB]at hstep
     have h7:(Utf8.decode s p).1=7∨(Utf8.decode s p).1=8∨(Utf8.decode s p).1=9∨(Utf8.decode s p).1=10∨(Utf8.decode s p).1=11∨(Utf8.decode s p).1=12∨(Utf8.decode s p).1=13:=(by omega);clear hA hB hlow;rcases h7 with h7|h7|h7|h7|h7|h7|h7
     ·have hv7:((Utf8.decode s p).1:Int)=7:=by rw[h7];rfl
      rw[h7]at hstep;have G:Hd (bs++[92,97]=34::(s.data.toList.take (p+(Utf8.decode s p).2)).flatMap U.wrQ):=hd <|by rw[hstep,hr.o];rfl
      have HNEW:Hd (cellsB [92,97]=[.int .u8 92,.int .u8 97]):=hd rfl;clear hstep h7;go_wp2_with (at_builtin;refine wpList_app_lit 63 5 (.int .u8 0) 1 1 underlying63 info_u8 rfl (by decide) rfl _ _ rfl w.heap.size u4 bs.length (cellsB bs) (wr.iterAt kk s (p+(Utf8.decode s p).2)) #[.int .u8 92,.int .u8 97] 2 rfl rfl how2 rfl ?_ ?_ ?_ hzz ?_)
      any_goals (first|omega|(simp[Value.oneCell'];done))
      intro v' w' ho' hg';have hit':=hd (grown_keep hg' HIT.o HNE.o);have hbw':=bel_grown HBW.o hg' (fun k hk=>(how2.lt k hk).1);have HO:Hd (w'.ownsRow w.heap.size 5 1 v' (bs++[92,97]).length (cellsB (bs++[92,97]))):=hd <|by
       rw[cellsB_app,List.length_append,HNEW.o];exact ho'
      clear how how2 ho' hg';go_wp2;go_roundw
      case rel=>exact⟨p+(Utf8.decode s p).2,bs++[92,97],hle,hit'.o,HO.o,hbw',G,GV⟩
      case measure=>rw[iterPos_of hit'.o,HIP.o];omega
     ·have hv7:((Utf8.decode s p).1:Int)=8:=by rw[h7];rfl
      rw[h7]at hstep;have G:Hd (bs++[92,98]=34::(s.data.toList.take (p+(Utf8.decode s p).2)).flatMap U.wrQ):=hd <|by rw[hstep,hr.o];rfl
      have HNEW:Hd (cellsB [92,98]=[.int .u8 92,.int .u8 98]):=hd rfl;clear hstep h7;go_wp2_with (at_builtin;refine wpList_app_lit 63 5 (.int .u8 0) 1 1 underlying63 info_u8 rfl (by decide) rfl _ _ rfl w.heap.size u4 bs.length (cellsB bs) (wr.iterAt kk s (p+(Utf8.decode s p).2)) #[.int .u8 92,.int .u8 98] 2 rfl rfl how2 rfl ?_ ?_ ?_ hzz ?_)
      any_goals (first|omega|(simp[Value.oneCell'];done))
      intro v' w' ho' hg';have hit':=hd (grown_keep hg' HIT.o HNE.o);have hbw':=bel_grown HBW.o hg' (fun k hk=>(how2.lt k hk).1);have HO:Hd (w'.ownsRow w.heap.size 5 1 v' (bs++[92,98]).length (cellsB (bs++[92,98]))):=hd <|by
       rw[cellsB_app,List.length_append,HNEW.o];exact ho'
      clear how how2 ho' hg';go_wp2;go_roundw
      case rel=>exact⟨p+(Utf8.decode s p).2,bs++[92,98],hle,hit'.o,HO.o,hbw',G,GV⟩
      case measure=>rw[iterPos_of hit'.o,HIP.o];omega
     ·have hv7:((Utf8.decode s p).1:Int)=9:=by rw[h7];rfl
      rw[h7]at hstep;have G:Hd (bs++[92,116]=34::(s.data.toList.take (p+(Utf8.decode s p).2)).flatMap U.wrQ):=hd <|by rw[hstep,hr.o];rfl
      have HNEW:Hd (cellsB [92,116]=[.int .u8 92,.int .u8 116]):=hd rfl;clear hstep h7;go_wp2_with (at_builtin;refine wpList_app_lit 63 5 (.int .u8 0) 1 1 underlying63 info_u8 rfl (by decide) rfl _ _ rfl w.heap.size u4 bs.length (cellsB bs) (wr.iterAt kk s (p+(Utf8.decode s p).2)) #[.int .u8 92,.int .u8 116] 2 rfl rfl how2 rfl ?_ ?_ ?_ hzz ?_)
      any_goals (first|omega|(simp[Value.oneCell'];done))
      intro v' w' ho' hg';have hit':=hd (grown_keep hg' HIT.o HNE.o);have hbw':=bel_grown HBW.o hg' (fun k hk=>(how2.lt k hk).1);have HO:Hd (w'.ownsRow w.heap.size 5 1 v' (bs++[92,116]).length (cellsB (bs++[92,116]))):=hd <|by
       rw[cellsB_app,List.length_append,HNEW.o];exact ho'
      clear how how2 ho' hg';go_wp2;go_roundw
      case rel=>exact⟨p+(Utf8.decode s p).2,bs++[92,116],hle,hit'.o,HO.o,hbw',G,GV⟩
      case measure=>rw[iterPos_of hit'.o,HIP.o];omega
     ·have hv7:((Utf8.decode s p).1:Int)=10:=by rw[h7];rfl
      rw[h7]at hstep;have G:Hd (bs++[92,110]=34::(s.data.toList.take (p+(Utf8.decode s p).2)).flatMap U.wrQ):=hd <|by rw[hstep,hr.o];rfl
      have HNEW:Hd (cellsB [92,110]=[.int .u8 92,.int .u8 110]):=hd rfl;clear hstep h7;go_wp2_with (at_builtin;refine wpList_app_lit 63 5 (.int .u8 0) 1 1 underlying63 info_u8 rfl (by decide) rfl _ _ rfl w.heap.size u4 bs.length (cellsB bs) (wr.iterAt kk s (p+(Utf8.decode s p).2)) #[.int .u8 92,.int .u8 110] 2 rfl rfl how2 rfl ?_ ?_ ?_ hzz ?_)
      any_goals (first|omega|(simp[Value.oneCell'];done))
      intro v' w' ho' hg';have hit':=hd (grown_keep hg' HIT.o HNE.o);have hbw':=bel_grown HBW.o hg' (fun k hk=>(how2.lt k hk).1);have HO:Hd (w'.ownsRow w.heap.size 5 1 v' (bs++[92,110]).length (cellsB (bs++[92,110]))):=hd <|by
       rw[cellsB_app,List.length_append,HNEW.o];exact ho'
      clear how how2 ho' hg';go_wp2;go_roundw
      case rel=>exact⟨p+(Utf8.decode s p).2,bs++[92,110],hle,hit'.o,HO.o,hbw',G,GV⟩
      case measure=>rw[iterPos_of hit'.o,HIP.o];omega
     ·have hv7:((Utf8.decode s p).1:Int)=11:=by rw[h7];rfl
      rw[h7]at hstep;have G:Hd (bs++[92,118]=34::(s.data.toList.take (p+(Utf8.decode s p).2)).flatMap U.wrQ):=hd <|by rw[hstep,hr.o];rfl
      have HNEW:Hd (cellsB [92,118]=[.int .u8 92,.int .u8 118]):=hd rfl;clear hstep h7;go_wp2_with (at_builtin;refine wpList_app_lit 63 5 (.int .u8 0) 1 1 underlying63 info_u8 rfl (by decide) rfl _ _ rfl w.heap.size u4 bs.length (cellsB bs) (wr.iterAt kk s (p+(Utf8.decode s p).2)) #[.int .u8 92,.int .u8 118] 2 rfl rfl how2 rfl ?_ ?_ ?_ hzz ?_)
      any_goals (first|omega|(simp[Value.oneCell'];done))
      intro v' w' ho' hg';have hit':=hd (grown_keep hg' HIT.o HNE.o);have hbw':=bel_grown HBW.o hg' (fun k hk=>(how2.lt k hk).1);have HO:Hd (w'.ownsRow w.heap.size 5 1 v' (bs++[92,118]).length (cellsB (bs++[92,118]))):=hd <|by
       rw[cellsB_app,List.length_append,HNEW.o];exact ho'
      clear how how2 ho' hg';go_wp2;go_roundw
      case rel=>exact⟨p+(Utf8.decode s p).2,bs++[92,118],hle,hit'.o,HO.o,hbw',G,GV⟩
      case measure=>rw[iterPos_of hit'.o,HIP.o];omega
     ·have hv7:((Utf8.decode s p).1:Int)=12:=by rw[h7];rfl
      rw[h7]at hstep;have G:Hd (bs++[92,102]=34::(s.data.toList.take (p+(Utf8.decode s p).2)).flatMap U.wrQ):=hd <|by rw[hstep,hr.o];rfl
      have HNEW:Hd (cellsB [92,102]=[.int .u8 92,.int .u8 102]):=hd rfl;clear hstep h7;go_wp2_with (at_builtin;refine wpList_app_lit 63 5 (.int .u8 0) 1 1 underlying63 info_u8 rfl (by decide) rfl _ _ rfl w.heap.size u4 bs.length (cellsB bs) (wr.iterAt kk s (p+(Utf8.decode s p).2)) #[.int .u8 92,.int .u8 102] 2 rfl rfl how2 rfl ?_ ?_ ?_ hzz ?_)
      any_goals (first|omega|(simp[Value.oneCell'];done))
      intro v' w' ho' hg';have hit':=hd (grown_keep hg' HIT.o HNE.o);have hbw':=bel_grown HBW.o hg' (fun k hk=>(how2.lt k hk).1);have HO:Hd (w'.ownsRow w.heap.size 5 1 v' (bs++[92,102]).length (cellsB (bs++[92,102]))):=hd <|by
       rw[cellsB_app,List.length_append,HNEW.o];exact ho'
      clear how how2 ho' hg';go_wp2;go_roundw
      case rel=>exact⟨p+(Utf8.decode s p).2,bs++[92,102],hle,hit'.o,HO.o,hbw',G,GV⟩
      case measure=>rw[iterPos_of hit'.o,HIP.o];omega
     ·have hv7:((Utf8.decode s p).1:Int)=13:=by rw[h7];rfl
      rw[h7]at hstep;have G:Hd (bs++[92,114]=34::(s.data.toList.take (p+(Utf8.decode s p).2)).flatMap U.wrQ):=hd <|by rw[hstep,hr.o];rfl
      have HNEW:Hd (cellsB [92,114]=[.int .u8 92,.int .u8 114]):=hd rfl;clear hstep h7;go_wp2_with (at_builtin;refine wpList_app_lit 63 5 (.int .u8 0) 1 1 underlying63 info_u8 rfl (by decide) rfl _ _ rfl w.heap.size u4 bs.length (cellsB bs) (wr.iterAt kk s (p+(Utf8.decode s p).2)) #[.int .u8 92,.int .u8 114] 2 rfl rfl how2 rfl ?_ ?_ ?_ hzz ?_)
      any_goals (first|omega|(simp[Value.oneCell'];done))
      intro v' w' ho' hg';have hit':=hd (grown_keep hg' HIT.o HNE.o);have hbw':=bel_grown HBW.o hg' (fun k hk=>(how2.lt k hk).1);have HO:Hd (w'.ownsRow w.heap.size 5 1 v' (bs++[92,114]).length (cellsB (bs++[92,114]))):=hd <|by
       rw[cellsB_app,List.length_append,HNEW.o];exact ho'
      clear how how2 ho' hg';go_wp2;go_roundw
      case rel=>exact⟨p+(Utf8.decode s p).2,bs++[92,114],hle,hit'.o,HO.o,hbw',G,GV⟩
      case measure=>rw[iterPos_of hit'.o,HIP.o];omega
    by_cases hC:(Utf8.decode s p).1<32∨(Utf8.decode s p).1=127
    ·rw[U.wrQ_hex _ (by omega) ⟨hC,hB⟩]at hstep
     have G:Hd (bs++[92,120,UInt8.ofNat (U.hxN ((Utf8.decode s p).1/16)),UInt8.ofNat (U.hxN ((Utf8.decode s p).1%16))]=34::(s.data.toList.take (p+(Utf8.decode s p).2)).flatMap U.wrQ):=hd <|by rw[hstep,hr.o];rfl
     have b1:(((Utf8.decode s p).1:Int)==34)=false:=(by rw[bf];omega);have b2:(((Utf8.decode s p).1:Int)==92)=false:=(by rw[bf];omega);clear hstep;have hC':(Utf8.decode s p).1<7∨(14≤(Utf8.decode s p).1∧(Utf8.decode s p).1<32)∨(Utf8.decode s p).1=127:=(by omega);have ha15:=and15 ((Utf8.decode s p).1:Int) (by omega) (by omega);have x1:=fun w=>run_hex .i32 ((Utf8.decode s p).1/16) (by omega) (by omega) w
     have x2:=fun w=>run_hex .i32 ((Utf8.decode s p).1%16) (by omega) (by omega) w
     have HNEW:Hd (cellsB [92,120,UInt8.ofNat (U.hxN ((Utf8.decode s p).1/16)),UInt8.ofNat (U.hxN ((Utf8.decode s p).1%16))]=[.int .u8 92,.int .u8 120,.int .u8 (U.hxN (((Utf8.decode s p).1:Int)/16).toNat:Int),.int .u8 (U.hxN (((Utf8.decode s p).1:Int)%16).toNat:Int)]):=hd <|by
      have e1:(((Utf8.decode s p).1:Int)/16).toNat=(Utf8.decode s p).1/16:=(by omega);have e2:(((Utf8.decode s p).1:Int)%16).toNat=(Utf8.decode s p).1%16:=(by omega);rw[e1,e2];simp only[cellsB,List.map_cons,List.map_nil];rw[U.ofNat_toNat _ (U.hxN_lt _ (by omega)),U.ofNat_toNat _ (U.hxN_lt _ (by omega))];rfl
     clear hA hB hC;rcases hC' with hC|hC|hC
     ·go_wp2_with fail
      go_region_law (refine step_app_lit 63 5 (.int .u8 0) 1 1 underlying63 info_u8 rfl (by decide) rfl (.tmp 51) (.tmp 58) rfl w.heap.size u4 bs.length (cellsB bs) (wr.iterAt kk s (p+(Utf8.decode s p).2)) _ 4 rfl rfl how2 rfl (by simp[Value.oneCell']) (by omega) (by omega) hzz ?_;intro v' w' ho' hg')
      all_goals
       have hit':=hd (grown_keep hg' HIT.o HNE.o);have hbw':=bel_grown HBW.o hg' (fun k hk=>(how2.lt k hk).1);have HO:Hd (w'.ownsRow w.heap.size 5 1 v' (bs++[92,120,UInt8.ofNat (U.hxN ((Utf8.decode s p).1/16)),UInt8.ofNat (U.hxN ((Utf8.decode s p).1%16))]).length (cellsB (bs++[92,120,UInt8.ofNat (U.hxN ((Utf8.decode s p).1/16)),UInt8.ofNat (U.hxN ((Utf8.decode s p).1%16))]))):=hd <|by
        rw[cellsB_app,List.length_append,HNEW.o];exact ho'
       clear how how2 ho' hg'
       go_simp
       go_wp2;go_roundw
       case rel=>exact⟨p+(Utf8.decode s p).2,_,hle,hit'.o,HO.o,hbw',G,GV⟩
       case measure=>rw[iterPos_of hit'.o,HIP.o];omega
     ·go_wp2_with fail
      go_region_law (refine step_app_lit 63 5 (.int .u8 0) 1 1 underlying63 info_u8 rfl (by decide) rfl (.tmp 51) (.tmp 58) rfl w.heap.size u4 bs.length (cellsB bs) (wr.iterAt kk s (p+(Utf8.decode s p).2)) _ 4 rfl rfl how2 rfl (by simp[Value.oneCell']) (by omega) (by omega) hzz ?_;intro v' w' ho' hg')
      all_goals
       have hit':=hd (grown_keep hg' HIT.o HNE.o);have hbw':=bel_grown HBW.o hg' (fun k hk=>(how2.lt k hk).1);have HO:Hd (w'.ownsRow w.heap.size 5 1 v' (bs++[92,120,UInt8.ofNat (U.hxN ((Utf8.decode s p).1/16)),UInt8.ofNat (U.hxN ((Utf8.decode s p).1%16))]).length (cellsB (bs++[92,120,UInt8.ofNat (U.hxN ((Utf8.decode s p).1/16)),UInt8.ofNat (U.hxN ((Utf8.decode s p).1%16))]))):=hd <|by
        rw[cellsB_app,List.length_append,HNEW.o];exact ho'
       clear how how2 ho' hg'
       go_simp
       go_wp2;go_roundw
       case rel=>exact⟨p+(Utf8.decode s p).2,_,hle,hit'.o,HO.o,hbw',G,GV⟩
       case measure=>rw[iterPos_of hit'.o,HIP.o];omega
     ·have b3:(((Utf8.decode s p).1:Int)==127)=true:=by rw[hC];rfl
      have hC1:127≤(Utf8.decode s p).1:=(by omega);have hC2:(Utf8.decode s p).1≤127:=(by omega);clear hC;go_wp2_with fail
      go_region_law (refine step_app_lit 63 5 (.int .u8 0) 1 1 underlying63 info_u8 rfl (by decide) rfl (.tmp 51) (.tmp 58) rfl w.heap.size u4 bs.length (cellsB bs) (wr.iterAt kk s (p+(Utf8.decode s p).2)) _ 4 rfl rfl how2 rfl (by simp[Value.oneCell']) (by omega) (by omega) hzz ?_;intro v' w' ho' hg')
      all_goals
       have hit':=hd (grown_keep hg' HIT.o HNE.o);have hbw':=bel_grown HBW.o hg' (fun k hk=>(how2.lt k hk).1);have HO:Hd (w'.ownsRow w.heap.size 5 1 v' (bs++[92,120,UInt8.ofNat (U.hxN ((Utf8.decode s p).1/16)),UInt8.ofNat (U.hxN ((Utf8.decode s p).1%16))]).length (cellsB (bs++[92,120,UInt8.ofNat (U.hxN ((Utf8.decode s p).1/16)),UInt8.ofNat (U.hxN ((Utf8.decode s p).1%16))]))):=hd <|by
        rw[cellsB_app,List.length_append,HNEW.o];exact ho'
       clear how how2 ho' hg'
       go_simp
       go_wp2;go_roundw
       case rel=>exact⟨p+(Utf8.decode s p).2,_,hle,hit'.o,HO.o,hbw',G,GV⟩
       case measure=>rw[iterPos_of hit'.o,HIP.o];omega
    ·have hc:32≤(Utf8.decode s p).1∧(Utf8.decode s p).1≠127∧(Utf8.decode s p).1≠34∧(Utf8.decode s p).1≠92:=by omega
     rw[U.wrQ_self _ (by omega) hc,←U.enc_low _ hlow]at hstep;have G:Hd (bs++(Utf8.encode ((Utf8.decode s p).1:Int)).toList=34::(s.data.toList.take (p+(Utf8.decode s p).2)).flatMap U.wrQ):=hd <|by rw[hstep,hr.o];rfl
     clear hstep;have b1:(((Utf8.decode s p).1:Int)==34)=false:=(by rw[bf];omega);have b2:(((Utf8.decode s p).1:Int)==92)=false:=(by rw[bf];omega);have b3:(((Utf8.decode s p).1:Int)==127)=false:=(by rw[bf];omega);have hv:=hd (U.good_valid s p GB.o);have hn:bs.length≤140737488351232:=(by omega);have hr32:32≤(Utf8.decode s p).1:=(by omega);have hcast:32≤(Utf8.decode s p).1:=hr32;clear hA hB hC hlow hc;go_wp2_with (go_at_call 71;refine(form_any _ hv.o w.heap.size u4 bs.length (cellsB bs) _ how2 hzz hn).mono ?_;rintro e w' ⟨v',rfl,ho',hg'⟩)
     have hit':=hd (grown_keep hg' HIT.o HNE.o);have hbw':=bel_grown HBW.o hg' (fun k hk=>(how2.lt k hk).1);have HO:Hd (w'.ownsRow w.heap.size 5 1 v' (bs++(Utf8.encode ((Utf8.decode s p).1:Int)).toList).length (cellsB (bs++(Utf8.encode ((Utf8.decode s p).1:Int)).toList))):=hd <|by
      rw[cellsB_app,List.length_append];exact ho'
     clear how how2 ho' hg' hv;go_wp2;go_roundw
     case rel=>exact⟨p+(Utf8.decode s p).2,_,hle,hit'.o,HO.o,hbw',G,GV⟩
     case measure=>rw[iterPos_of hit'.o,HIP.o];omega
   ·have hstep:=U.flat_high U.wrQ U.wrQ_high s p hp GB.o (by unfold U.run;omega)
    unfold U.run at hstep;have G:Hd (bs++(Utf8.encode ((Utf8.decode s p).1:Int)).toList=34::(s.data.toList.take (p+(Utf8.decode s p).2)).flatMap U.wrQ):=hd <|by rw[hstep,hr.o];rfl
    clear hstep;have b1:(((Utf8.decode s p).1:Int)==34)=false:=(by rw[bf];omega);have b2:(((Utf8.decode s p).1:Int)==92)=false:=(by rw[bf];omega);have b3:(((Utf8.decode s p).1:Int)==127)=false:=(by rw[bf];omega);have hv:=hd (U.good_valid s p GB.o);have hn:bs.length≤140737488351232:=(by omega);have hr32:32≤(Utf8.decode s p).1:=(by omega);have hcast:32≤(Utf8.decode s p).1:=hr32;clear hlow;go_wp2_with (go_at_call 71;refine(form_any _ hv.o w.heap.size u4 bs.length (cellsB bs) _ how2 hzz hn).mono ?_;rintro e w' ⟨v',rfl,ho',hg'⟩)
    have hit':=hd (grown_keep hg' HIT.o HNE.o);have hbw':=bel_grown HBW.o hg' (fun k hk=>(how2.lt k hk).1);have HO:Hd (w'.ownsRow w.heap.size 5 1 v' (bs++(Utf8.encode ((Utf8.decode s p).1:Int)).toList).length (cellsB (bs++(Utf8.encode ((Utf8.decode s p).1:Int)).toList))):=hd <|by
     rw[cellsB_app,List.length_append];exact ho'
    clear how how2 ho' hg' hv;go_wp2;go_roundw
    case rel=>exact⟨p+(Utf8.decode s p).2,_,hle,hit'.o,HO.o,hbw',G,GV⟩
    case measure=>rw[iterPos_of hit'.o,HIP.o];omega
  ·have hnx:=fun ty=>Lib.run_next_end_at (P:=prog) wr kk s p ty hit hp
   have G:Hd (bs++[34]=(U.wrS U.wrQ s).1):=hd <|by
    rw[HG.o,hr.o,List.take_of_length_le (by rw[←Lib.size_eq];omega)]
   have hzz:w.heap.size≤wr.heap.size:=hbw.size;go_wp2_with (at_builtin;refine wpList_app_lit 63 5 (.int .u8 0) 1 1 underlying63 info_u8 rfl (by decide) rfl _ _ rfl w.heap.size u4 bs.length (cellsB bs) _ #[.int .u8 34] 1 rfl rfl how rfl ?c1 ?c2 ?c3 hzz ?_)
   case c1=>simp[Value.oneCell']
   case c2=>omega
   case c3=>omega
   intro v' w' ho' hg';have hbw':=bel_grown hbw hg' (fun k hk=>(how.lt k hk).1);have HO:w'.ownsRow w.heap.size 5 1 v' (bs++[34]).length (cellsB (bs++[34])):=by
    rw[cellsB_app,List.length_append];exact ho'
   have io:=IsL.own HO;have hcv:=run_string_of w' 63 9 5 underlying63 underlying5 underlying9 v' _ _ io;clear how ho' hg' HO io hr;go_wp2;go_ret2;exact⟨ret_strR (by rw[←G.o]) (by rw[HG.o]),hbw'⟩
end Go.Proofs.YtieknenhfeejiaaGreatDoor
namespace Go.Proofs.YtieknenhfeejiaaGreatDoor
open _root_.Go.Proofs.Tryz
open Go.RowKit
def U.numR:Option Nat→Int
 |some v=>v
 |none=>-1
theorem refdigit_any (c:Nat)(w:World)(h:c<256) :
  Calls prog 134 #[.int .u8 c] w fun e w'=>e=.returned (.int .i64 (U.dig c))∧w=w':=by
 by_cases h1:48≤c∧c≤57
 ·have G:Hd (U.dig c=(c:Int)-48):=hd <|by unfold U.dig;rw[if_pos h1]
  obtain⟨a1,a2⟩:=h1;go_enter func134,ntmps134;go_wp2;go_ret;exact⟨ret_int G.o.symm,rfl⟩
 by_cases h2:97≤c∧c≤102
 ·have G:Hd (U.dig c=(c:Int)-97+10):=hd <|by unfold U.dig;rw[if_neg h1,if_pos h2];omega
  obtain⟨a1,a2⟩:=h2;go_enter func134,ntmps134;go_wp2;go_ret;exact⟨ret_int G.o.symm,rfl⟩
 by_cases h3:65≤c∧c≤70
 ·have G:Hd (U.dig c=(c:Int)-65+10):=hd <|by unfold U.dig;rw[if_neg h1,if_neg h2,if_pos h3];omega
  obtain⟨a1,a2⟩:=h3;go_enter func134,ntmps134;go_wp2;go_ret;exact⟨ret_int G.o.symm,rfl⟩
 ·have G:Hd (U.dig c = -1):=hd <|by unfold U.dig;rw[if_neg h1,if_neg h2,if_neg h3]
  go_enter func134,ntmps134;go_wp2
  all_goals first|(exfalso;omega)|(go_ret;exact⟨ret_int G.o.symm,rfl⟩)
theorem number8 (s:ByteArray)(i k e:Nat)(zi zk ze:Int)(hzi:zi=i)(hzk:zk=k)(hze:ze=e)(w:World)(hs:s.size≤1125899906842624)(hk:k≤8)(hk1:1≤k)(he:e≤s.size)(hi:i≤1125899906842624) :
  Calls prog 98 #[.string s,.int .i64 zi,.int .i64 zk,.int .i64 8,.int .i64 ze] w fun en w'=>en=.returned (.int .i64 (U.numR (U.numL 8 k ((s.data.toList.take e).drop i))))∧w=w':=by
 subst hzi hzk hze;have hlen:((s.data.toList.take e).drop i).length=e-i:=(by rw[List.length_drop,List.length_take,←Lib.size_eq];omega);by_cases hl:e<i+k
 ·have G:Hd (U.numR (U.numL 8 k ((s.data.toList.take e).drop i)) = -1):=hd <|by unfold U.numL;rw[if_pos (by omega)];rfl
  clear hlen;go_enter func98,ntmps98;go_wp2;go_ret;exact⟨ret_int G.o.symm,rfl⟩
 have hdt:decide ((e:Int)<(i:Int)+(k:Int))=false:=(by rw[decide_eq_false_iff_not];omega);have hle:i+k≤e:=(by omega);have G0:Hd (U.numL 8 k ((s.data.toList.take e).drop i)=U.numF 8 ((s.data.toList.drop i).take k) 0):=hd <|by
  unfold U.numL;rw[if_neg (by omega)];congr 1
  rw[List.drop_take,List.take_take,Nat.min_eq_left (by omega)]
 have hpk:(8:Nat)^k≤8^8:=Nat.pow_le_pow_right (by omega) hk;have HPK:=hd hpk;have hzl:((s.data.toList.drop i).take k).length=k:=(by rw[List.length_take,List.length_drop,←Lib.size_eq];omega);have HL:=hd hzl;clear hlen hl hpk hzl;go_enter func98,ntmps98;go_wp2
 go_loop [11,12] (fun x y=>∃j v:Nat,j≤k∧y=.int .i64 j∧x=.int .i64 v∧Hd (v+1≤8^j)∧v≤4294967296∧Hd (U.numF 8 (((s.data.toList.drop i).take k).drop j) v=U.numF 8 ((s.data.toList.drop i).take k) 0)) (fun _ y=>k-(intOf y).toNat)
 case atStart=>exact⟨0,0,Nat.zero_le _,rfl,rfl,hd (by decide),by omega,hd rfl⟩
 case round=>
  obtain⟨j,v,hj,rfl,rfl,hvp,hvb,hr⟩:=hrel;by_cases hlt:j<k
  ·have hat:=U.at_eq s (i+j) (by omega)
   obtain⟨hk',hlat⟩:=list_at s (i+j) (by omega);have hdr:((s.data.toList.drop i).take k).drop j=s.data.toList[i+j]'hk'::((s.data.toList.drop i).take k).drop (j+1):=by
    rw[List.drop_eq_getElem_cons (by rw[HL.o];exact hlt)];simp
   have hcb:=U.at_lt s (i+j);have hdb:=U.dig_bd (U.at' s (i+j));have heq:((s[i+j]'(by omega)).toNat:Int)=(U.at' s (i+j):Int):=(by rw[hat]);have hr':=hr.o;rw[hdr]at hr';have hb1:v*8+(U.dig (U.at' s (i+j))).toNat+1≤8^(j+1)∨¬ (0≤U.dig (U.at' s (i+j))∧U.dig (U.at' s (i+j))<8):=by
    by_cases hc:0≤U.dig (U.at' s (i+j))∧U.dig (U.at' s (i+j))<8
    ·left
     have:=hvp.o;rw[Nat.pow_succ];have h2:=Nat.mul_le_mul_right 8 this;rw[Nat.add_mul]at h2;omega
    ·exact .inr hc
   have hpj:(8:Nat)^(j+1)≤8^k:=Nat.pow_le_pow_right (by omega) (by omega);have HB1:=hd hb1;have HPJ:=hd hpj;have HR:=hd hr';have HLAT:=hd hlat;clear hat hdr hr hr' hb1 hpj hlat;by_cases h1:0≤U.dig (U.at' s (i+j))∧U.dig (U.at' s (i+j))<8
   ·have G:Hd (U.numF 8 (((s.data.toList.drop i).take k).drop (j+1)) (v*8+(U.dig (U.at' s (i+j))).toNat)=U.numF 8 ((s.data.toList.drop i).take k) 0):=hd <|by
     rw[←HR.o,U.numF,HLAT.o,if_pos ⟨h1.1,by simpa using h1.2⟩]
    have hp1:v*8+(U.dig (U.at' s (i+j))).toNat+1≤8^(j+1):=by
     rcases HB1.o with h|h
     ·exact h
     ·exact absurd h1 h
    have hle8:v*8+(U.dig (U.at' s (i+j))).toNat≤4294967296:=by
     have:=Nat.le_trans hp1 (Nat.le_trans HPJ.o HPK.o);have h8:(8:Nat)^8≤4294967296:=(by decide);omega
    have HP1:=hd hp1;obtain⟨d1,d2⟩:=h1;clear hp1 HB1 HPJ HR HLAT;go_wp2_with (go_at_call 134;refine(refdigit_any _ _ (by omega)).mono ?_;rintro e w' ⟨rfl,rfl⟩)
    go_round
    case rel=>exact⟨j+1,v*8+(U.dig (U.at' s (i+j))).toNat,by omega,by go_num,by rw[show (((v*8+(U.dig (U.at' s (i+j))).toNat:Nat):Int))=(v:Int)*8+U.dig (U.at' s (i+j)) by omega],HP1,hle8,G⟩
    case measure=>simp[intOf];omega
   ·have G:Hd (U.numR (U.numL 8 k ((s.data.toList.take e).drop i)) = -1):=hd <|by
     rw[G0.o,←HR.o,U.numF,HLAT.o,if_neg (by intro h;exact h1 ⟨h.1,by simpa using h.2⟩)];rfl
    clear HB1 HPJ HR HLAT;by_cases d1:0≤U.dig (U.at' s (i+j))
    ·have d2:¬ U.dig (U.at' s (i+j))<8:=fun h=>h1 ⟨d1,h⟩
     clear h1;go_wp2_with (go_at_call 134;refine(refdigit_any _ _ (by omega)).mono ?_;rintro e w' ⟨rfl,rfl⟩)
     go_ret;exact⟨ret_int G.o.symm,rfl⟩
    ·clear h1
     go_wp2_with (go_at_call 134;refine(refdigit_any _ _ (by omega)).mono ?_;rintro e w' ⟨rfl,rfl⟩)
     go_ret;exact⟨ret_int G.o.symm,rfl⟩
  ·have G:Hd (U.numR (U.numL 8 k ((s.data.toList.take e).drop i))=v):=hd <|by
    rw[G0.o,←hr.o,List.drop_of_length_le (by rw[HL.o];omega),U.numF];rfl
   go_wp2;go_ret;exact⟨ret_int G.o.symm,rfl⟩
theorem number16 (s:ByteArray)(i k e:Nat)(zi zk ze:Int)(hzi:zi=i)(hzk:zk=k)(hze:ze=e)(w:World)(hs:s.size≤1125899906842624)(hk:k≤8)(hk1:1≤k)(he:e≤s.size)(hi:i≤1125899906842624) :
  Calls prog 98 #[.string s,.int .i64 zi,.int .i64 zk,.int .i64 16,.int .i64 ze] w fun en w'=>en=.returned (.int .i64 (U.numR (U.numL 16 k ((s.data.toList.take e).drop i))))∧w=w':=by
 subst hzi hzk hze;have hlen:((s.data.toList.take e).drop i).length=e-i:=(by rw[List.length_drop,List.length_take,←Lib.size_eq];omega);by_cases hl:e<i+k
 ·have G:Hd (U.numR (U.numL 16 k ((s.data.toList.take e).drop i)) = -1):=hd <|by unfold U.numL;rw[if_pos (by omega)];rfl
  clear hlen;go_enter func98,ntmps98;go_wp2;go_ret;exact⟨ret_int G.o.symm,rfl⟩
 have hdt:decide ((e:Int)<(i:Int)+(k:Int))=false:=(by rw[decide_eq_false_iff_not];omega);have hle:i+k≤e:=(by omega);have G0:Hd (U.numL 16 k ((s.data.toList.take e).drop i)=U.numF 16 ((s.data.toList.drop i).take k) 0):=hd <|by
  unfold U.numL;rw[if_neg (by omega)];congr 1
  rw[List.drop_take,List.take_take,Nat.min_eq_left (by omega)]
 have hpk:(16:Nat)^k≤16^8:=Nat.pow_le_pow_right (by omega) hk;have HPK:=hd hpk;have hzl:((s.data.toList.drop i).take k).length=k:=(by rw[List.length_take,List.length_drop,←Lib.size_eq];omega);have HL:=hd hzl;clear hlen hl hpk hzl;go_enter func98,ntmps98;go_wp2
 go_loop [11,12] (fun x y=>∃j v:Nat,j≤k∧y=.int .i64 j∧x=.int .i64 v∧Hd (v+1≤16^j)∧v≤4294967296∧Hd (U.numF 16 (((s.data.toList.drop i).take k).drop j) v=U.numF 16 ((s.data.toList.drop i).take k) 0)) (fun _ y=>k-(intOf y).toNat)
 case atStart=>exact⟨0,0,Nat.zero_le _,rfl,rfl,hd (by decide),by omega,hd rfl⟩
 case round=>
  obtain⟨j,v,hj,rfl,rfl,hvp,hvb,hr⟩:=hrel;by_cases hlt:j<k
  ·have hat:=U.at_eq s (i+j) (by omega)
   obtain⟨hk',hlat⟩:=list_at s (i+j) (by omega);have hdr:((s.data.toList.drop i).take k).drop j=s.data.toList[i+j]'hk'::((s.data.toList.drop i).take k).drop (j+1):=by
    rw[List.drop_eq_getElem_cons (by rw[HL.o];exact hlt)];simp
   have hcb:=U.at_lt s (i+j);have hdb:=U.dig_bd (U.at' s (i+j));have heq:((s[i+j]'(by omega)).toNat:Int)=(U.at' s (i+j):Int):=(by rw[hat]);have hr':=hr.o;rw[hdr]at hr';have hb1:v*16+(U.dig (U.at' s (i+j))).toNat+1≤16^(j+1)∨¬ (0≤U.dig (U.at' s (i+j))∧U.dig (U.at' s (i+j))<16):=by
    by_cases hc:0≤U.dig (U.at' s (i+j))∧U.dig (U.at' s (i+j))<16
    ·left
     have:=hvp.o;rw[Nat.pow_succ];have h2:=Nat.mul_le_mul_right 16 this;rw[Nat.add_mul]at h2;omega
    ·exact .inr hc
   have hpj:(16:Nat)^(j+1)≤16^k:=Nat.pow_le_pow_right (by omega) (by omega);have HB1:=hd hb1;have HPJ:=hd hpj;have HR:=hd hr';have HLAT:=hd hlat;clear hat hdr hr hr' hb1 hpj hlat;by_cases h1:0≤U.dig (U.at' s (i+j))∧U.dig (U.at' s (i+j))<16
   ·have G:Hd (U.numF 16 (((s.data.toList.drop i).take k).drop (j+1)) (v*16+(U.dig (U.at' s (i+j))).toNat)=U.numF 16 ((s.data.toList.drop i).take k) 0):=hd <|by
     rw[←HR.o,U.numF,HLAT.o,if_pos ⟨h1.1,by simpa using h1.2⟩]
    have hp1:v*16+(U.dig (U.at' s (i+j))).toNat+1≤16^(j+1):=by
     rcases HB1.o with h|h
     ·exact h
     ·exact absurd h1 h
    have hle8:v*16+(U.dig (U.at' s (i+j))).toNat≤4294967296:=by
     have:=Nat.le_trans hp1 (Nat.le_trans HPJ.o HPK.o);have h8:(16:Nat)^8≤4294967296:=(by decide);omega
    have HP1:=hd hp1;obtain⟨d1,d2⟩:=h1;clear hp1 HB1 HPJ HR HLAT;go_wp2_with (go_at_call 134;refine(refdigit_any _ _ (by omega)).mono ?_;rintro e w' ⟨rfl,rfl⟩)
    go_round
    case rel=>exact⟨j+1,v*16+(U.dig (U.at' s (i+j))).toNat,by omega,by go_num,by rw[show (((v*16+(U.dig (U.at' s (i+j))).toNat:Nat):Int))=(v:Int)*16+U.dig (U.at' s (i+j)) by omega],HP1,hle8,G⟩
    case measure=>simp[intOf];omega
   ·have G:Hd (U.numR (U.numL 16 k ((s.data.toList.take e).drop i)) = -1):=hd <|by
     rw[G0.o,←HR.o,U.numF,HLAT.o,if_neg (by intro h;exact h1 ⟨h.1,by simpa using h.2⟩)];rfl
    clear HB1 HPJ HR HLAT;by_cases d1:0≤U.dig (U.at' s (i+j))
    ·exact absurd ⟨d1,by omega⟩ h1
    ·clear h1
     go_wp2_with (go_at_call 134;refine(refdigit_any _ _ (by omega)).mono ?_;rintro e w' ⟨rfl,rfl⟩)
     go_ret;exact⟨ret_int G.o.symm,rfl⟩
  ·have G:Hd (U.numR (U.numL 16 k ((s.data.toList.take e).drop i))=v):=hd <|by
    rw[G0.o,←hr.o,List.drop_of_length_le (by rw[HL.o];omega),U.numF];rfl
   go_wp2;go_ret;exact⟨ret_int G.o.symm,rfl⟩
def U.pairL:List UInt8→Nat→Option Nat
 |a::b::r,c=>if a.toNat=c then some b.toNat else U.pairL r c
 |_,_=>none
theorem drop_cons' (t:ByteArray)(p:Nat)(h:p<t.size):∃c:UInt8,c.toNat=U.at' t p∧t.data.toList.drop p=c::t.data.toList.drop (p+1):=by
 obtain⟨h',e⟩:=list_at t p h;exact⟨_,e,List.drop_eq_getElem_cons h'⟩
theorem uletter_any (c:Nat)(z:Int)(hz:z=c)(s:ByteArray)(w:World)(hs:s.size≤1125899906842624)(hc:c<256) :
  Calls prog 97 #[.int .u8 z,.string s] w fun e w'=>e=.returned (.int .i64 (U.numR (U.pairL s.data.toList c)))∧w=w':=by
 subst hz;go_enter func97,ntmps97;go_wp2
 go_loop [5] (fun x=>∃p:Nat,p≤s.size+1∧x=.int .i64 p∧Hd (U.pairL (s.data.toList.drop p) c=U.pairL s.data.toList c)) (fun x=>s.size+1-(intOf x).toNat)
 case atStart=>exact⟨0,by omega,rfl,hd rfl⟩
 case round=>
  obtain⟨p,hp,rfl,hr⟩:=hrel;by_cases hlt:p+1<s.size
  ·obtain⟨x,hx,hdx⟩:=drop_cons' s p (by omega)
   obtain⟨y,hy,hdy⟩:=drop_cons' s (p+1) hlt;have e0:=U.at_eq s p (by omega);have e1:=U.at_eq s (p+1) hlt;have h1:((s[p]'(by omega)).toNat:Int)=(U.at' s p:Int):=(by rw[e0]);have h2:((s[p+1]'hlt).toNat:Int)=(U.at' s (p+1):Int):=(by rw[e1]);have hlt1:=U.at_lt s (p+1);have hr':=hr.o;rw[hdx,hdy,U.pairL,hx,hy]at hr';have HR:=hd hr';clear hdx hdy hr' hr hx hy e0 e1;by_cases hq:U.at' s p=c
   ·have hb:((U.at' s p:Int)==(c:Int))=true:=by rw[hq];simp
    have G:Hd (U.numR (U.pairL s.data.toList c)=U.at' s (p+1)):=hd <|by rw[←HR.o,if_pos hq];rfl
    clear hq HR;go_wp2;go_ret;exact⟨ret_int G.o.symm,rfl⟩
   ·have hb:((U.at' s p:Int)==(c:Int))=false:=by rw[bf];omega
    have G:Hd (U.pairL (s.data.toList.drop (p+2)) c=U.pairL s.data.toList c):=hd <|by rw[←HR.o,if_neg hq]
    clear hq HR;go_wp2
    go_round
    case rel=>exact⟨p+2,by omega,by go_num,G⟩
    case measure=>simp[intOf];omega
  ·have G:Hd (U.numR (U.pairL s.data.toList c) = -1):=hd <|by
    rw[←hr.o];have hl:(s.data.toList.drop p).length≤1:=by rw[List.length_drop,←Lib.size_eq];omega
    match hm:s.data.toList.drop p,hl with
    |[],_=>rfl
    |[a],_=>rfl
   go_wp2;go_ret;exact⟨ret_int G.o.symm,rfl⟩
theorem wrap_u8 (x:Int)(h0:0≤x)(h1:x<256):IntKind.u8.wrap x=x:=by
 rw[IntKind.wrap_u8];omega
theorem ret_strV {a b:List UInt8}(h:a=b):Ending.returned (.string ⟨a.toArray⟩)=Ending.returned (.string ⟨b.toArray⟩):=by rw[h]
theorem ret_u8 {a b:Int}(h:a=b):Ending.returned (.int .u8 a)=Ending.returned (.int .u8 b):=by rw[h]
theorem back_any (c:Nat)(z:Int)(hz:z=c)(s:ByteArray)(w:World)(hs:s.size≤1125899906842624)(hc:c<256) :
  Calls prog 103 #[.int .u8 z,.string s] w fun e w'=>e=.returned (.int .u8 (U.backL s.data.toList c))∧w=w':=by
 subst hz;go_enter func103,ntmps103;go_wp2
 go_loop [5] (fun x=>∃p:Nat,p≤s.size+1∧x=.int .i64 p∧Hd (U.backL (s.data.toList.drop p) c=U.backL s.data.toList c)) (fun x=>s.size+1-(intOf x).toNat)
 case atStart=>exact⟨0,by omega,rfl,hd rfl⟩
 case round=>
  obtain⟨p,hp,rfl,hr⟩:=hrel;by_cases hlt:p+1<s.size
  ·obtain⟨x,hx,hdx⟩:=drop_cons' s p (by omega)
   obtain⟨y,hy,hdy⟩:=drop_cons' s (p+1) hlt;have e0:=U.at_eq s p (by omega);have e1:=U.at_eq s (p+1) hlt;have h1:((s[p]'(by omega)).toNat:Int)=(U.at' s p:Int):=(by rw[e0]);have h2:((s[p+1]'hlt).toNat:Int)=(U.at' s (p+1):Int):=(by rw[e1]);have hr':=hr.o;rw[hdx,hdy,U.backL,hx,hy]at hr';have HR:=hd hr';clear hdx hdy hr' hr hx hy e0 e1;by_cases hq:U.at' s (p+1)=c
   ·have hb:((U.at' s (p+1):Int)==(c:Int))=true:=by rw[hq];simp
    have G:Hd (U.backL s.data.toList c=U.at' s p):=hd <|by rw[←HR.o,if_pos hq]
    clear hq HR;go_wp2;go_ret;exact⟨ret_u8 (by rw[G.o]),rfl⟩
   ·have hb:((U.at' s (p+1):Int)==(c:Int))=false:=by rw[bf];omega
    have G:Hd (U.backL (s.data.toList.drop (p+2)) c=U.backL s.data.toList c):=hd <|by rw[←HR.o,if_neg hq]
    clear hq HR;go_wp2
    go_round
    case rel=>exact⟨p+2,by omega,by go_num,G⟩
    case measure=>simp[intOf];omega
  ·have G:Hd (U.backL s.data.toList c=0):=hd <|by
    rw[←hr.o];have hl:(s.data.toList.drop p).length≤1:=by rw[List.length_drop,←Lib.size_eq];omega
    match hm:s.data.toList.drop p,hl with
    |[],_=>rfl
    |[a],_=>rfl
   go_wp2;go_ret;exact⟨ret_u8 (by rw[G.o];rfl),rfl⟩
theorem U.backL_lt:∀(l:List UInt8) (c:Nat),U.backL l c<256
 |a::b::r,c=>by
  rw[U.backL];split
  ·exact a.toNat_lt
  ·exact U.backL_lt r c
 |[a],c=>by simp[U.backL]
 |[],c=>by simp[U.backL]
theorem U.take_byte (f:UInt8→List UInt8)(s:ByteArray)(p:Nat)(h:p<s.size):(s.data.toList.take (p+1)).flatMap f=(s.data.toList.take p).flatMap f++f (UInt8.ofNat (U.at' s p)):=by
 obtain⟨h',e⟩:=list_at s p h;rw[List.take_succ_eq_append_getElem h',List.flatMap_append];simp only[List.flatMap_cons,List.flatMap_nil,List.append_nil];rw[←e,U.u8_of]
theorem U.wrB_back (l h:List UInt8)(d:Bool)(c:Nat)(hc:c<256)(hb:U.backL l c≠0):U.wrB l h d (UInt8.ofNat c)=[92,UInt8.ofNat (U.backL l c)]:=by
 unfold U.wrB;rw[U.ofNat_toNat _ hc,if_pos hb]
theorem U.wrB_hex (l h:List UInt8)(d:Bool)(c:Nat)(hc:c<256)(hb:U.backL l c=0)(hx:c<32∨(d=true∧c=127)):U.wrB l h d (UInt8.ofNat c)=h++[UInt8.ofNat (U.hxN (c/16)),UInt8.ofNat (U.hxN (c%16))]:=by
 unfold U.wrB;rw[U.ofNat_toNat _ hc,if_neg (by simp[hb]),if_pos hx]
theorem U.wrB_self (l h:List UInt8)(d:Bool)(c:Nat)(hc:c<256)(hb:U.backL l c=0)(hx:¬ (c<32∨(d=true∧c=127))):U.wrB l h d (UInt8.ofNat c)=[UInt8.ofNat c]:=by
 unfold U.wrB;rw[U.ofNat_toNat _ hc,if_neg (by simp[hb]),if_neg hx]
theorem U.wrB_len (l h:List UInt8)(d:Bool)(hh:h.length≤4):∀c:Nat,c<256→(U.wrB l h d (UInt8.ofNat c)).length≤6:=by
 intro c hc;unfold U.wrB;split
 ·simp
 ·split
  ·simp;omega
  ·simp
theorem written_true (s l h:ByteArray)(w:World)(hs:s.size≤1048576)(hl:l.size≤1048576)(hh:h.size≤4) :
  Calls prog 73 #[.string s,.string l,.string h,.bool true] w fun e w'=>e=.returned (.string ⟨(34::s.data.toList.flatMap (U.wrB l.data.toList h.data.toList true)++[34]).toArray⟩)∧Below w.heap.size w w':=by
 obtain⟨f,hf⟩:∃f,f=U.wrB l.data.toList h.data.toList true:=⟨_,rfl⟩
 have HF:=hd hf;rw[←hf];have HLEN:Hd (∀c:Nat,c<256→(f (UInt8.ofNat c)).length≤6):=hd <|by rw[hf];exact U.wrB_len _ _ _ (by rw[←Lib.size_eq];exact hh)
 clear hf;go_enter func73,ntmps73;go_wp2;have ho0:(w.alloc (.cells #[.int .u8 34] 5)).ownsRow w.heap.size 5 1 (.slice (some ⟨w.heap.size,0,none⟩) 1 1) 1 (cellsB [34]):=World.ownsRow_lit w #[.int .u8 34] 1 (Nat.le_refl _) (by decide) rfl;have HO0:=hd ho0;have HB0:Hd (Below w.heap.size w (w.alloc (.cells #[.int .u8 34] 5))):=hd ((Below.refl _ _).alloc (Nat.le_refl _) _);clear ho0
 go_loopw [9,10] (fun v x wr=>∃(p:Nat) (bs:List UInt8),p≤s.size∧x=.int .i64 p∧wr.ownsRow w.heap.size 5 1 v bs.length (cellsB bs)∧Below w.heap.size w wr∧Hd (bs=34::(s.data.toList.take p).flatMap f)) (fun _ x _=>s.size-(intOf x).toNat)
 case atStart=>exact⟨0,[34],Nat.zero_le _,rfl,HO0.o,HB0.o,hd rfl⟩
 case round=>
  obtain⟨p,bs,hpos,rfl,how,hbw,hr⟩:=hrel;have hzz:w.heap.size≤wr.heap.size:=hbw.size;have hbl:bs.length≤6*s.size+1:=by
   have:=U.flat_len f HLEN.o (s.data.toList.take p);rw[hr.o,List.length_cons];rw[List.length_take,←Lib.size_eq]at this;omega
  have hbl2:bs.length≤6291457:=(by omega);clear hbl;by_cases hp:p<s.size
  ·have e0:=U.at_eq s p hp
   have h1:((s[p]'hp).toNat:Int)=(U.at' s p:Int):=(by rw[e0]);have hlt:=U.at_lt s p;have hstep:=U.take_byte f s p hp;have hbk:=U.backL_lt l.data.toList (U.at' s p);clear e0;have hl2:l.size≤1125899906842624:=(by omega);by_cases hb0:U.backL l.data.toList (U.at' s p)=0
   ·have b0:((U.backL l.data.toList (U.at' s p):Int)!=0)=false:=by rw[hb0];rfl
    by_cases hx:U.at' s p<32∨(true=true∧U.at' s p=127)
    ·rw[show f (UInt8.ofNat (U.at' s p))=h.data.toList++[UInt8.ofNat (U.hxN (U.at' s p/16)),UInt8.ofNat (U.hxN (U.at' s p%16))] by rw[HF.o];exact U.wrB_hex _ _ _ _ hlt hb0 hx]at hstep
     have G:Hd (bs++h.data.toList++[UInt8.ofNat (U.hxN (U.at' s p/16)),UInt8.ofNat (U.hxN (U.at' s p%16))]=34::(s.data.toList.take (p+1)).flatMap f):=hd <|by rw[hstep,hr.o,List.append_assoc];rfl
     have HNEW:Hd (cellsB [UInt8.ofNat (U.hxN (U.at' s p/16)),UInt8.ofNat (U.hxN (U.at' s p%16))]=[.int .u8 (U.hxN ((U.at' s p:Int)/16).toNat:Int),.int .u8 (U.hxN ((U.at' s p:Int)%16).toNat:Int)]):=hd <|by
      have e1:((U.at' s p:Int)/16).toNat=U.at' s p/16:=(by omega);have e2:((U.at' s p:Int)%16).toNat=U.at' s p%16:=(by omega);rw[e1,e2];simp only[cellsB,List.map_cons,List.map_nil];rw[U.ofNat_toNat _ (U.hxN_lt _ (by omega)),U.ofNat_toNat _ (U.hxN_lt _ (by omega))]
     have hw1:IntKind.u8.wrap ((U.at' s p:Int)/16)=(U.at' s p:Int)/16:=wrap_u8 _ (by omega) (by omega);have hw2:(U.at' s p:Int).tmod 16=(U.at' s p:Int)%16:=Int.tmod_eq_emod_of_nonneg (by omega);have x1:=fun w=>run_hex .u8 ((U.at' s p:Int)/16) (by omega) (by omega) w
     have x2:=fun w=>run_hex .u8 ((U.at' s p:Int)%16) (by omega) (by omega) w
     clear hstep hb0;have hx3:U.at' s p<32∨U.at' s p=127:=(by rcases hx with h|h;exact .inl h;exact .inr h.2);clear hx;rcases hx3 with hx3|hx3
     ·have hx2:bs.length+h.size≤140737488355328:=by omega
      go_wp2_with (first
       |(go_at_call 103;refine(back_any (U.at' s p) _ rfl _ _ hl2 hlt).mono ?_;rintro e w3 ⟨rfl,rfl⟩)
       |(at_builtin;refine wpList_app_str _ 63 9 5 underlying63 underlying9 info_u8 rfl _ _ rfl w.heap.size u9 _ _ rfl how h rfl hx2 hzz ?_))
      intro v1 w1 ho1 hg1;have hb1:=bel_grown hbw hg1 (fun k hk=>(how.lt k hk).1);have hz1:w.heap.size≤w1.heap.size:=hb1.size;clear how hg1;go_wp2
      go_region_law (refine step_app_lit 63 5 (.int .u8 0) 1 1 underlying63 info_u8 rfl (by decide) rfl (.tmp 50) (.tmp 57) rfl w.heap.size v1 _ _ w1 _ 2 rfl rfl ho1 rfl (by simp[Value.oneCell']) (by omega) (by omega) hz1 ?_;intro v' w' ho' hg')
      all_goals
       have hbw':=bel_grown hb1 hg' (fun k hk=>(ho1.lt k hk).1);have HO:Hd (w'.ownsRow w.heap.size 5 1 v' (bs++h.data.toList++[UInt8.ofNat (U.hxN (U.at' s p/16)),UInt8.ofNat (U.hxN (U.at' s p%16))]).length (cellsB (bs++h.data.toList++[UInt8.ofNat (U.hxN (U.at' s p/16)),UInt8.ofNat (U.hxN (U.at' s p%16))]))):=hd <|by
        rw[cellsB_app,cellsB_app,List.length_append,List.length_append,HNEW.o,←Lib.size_eq];exact ho'
       clear ho1 ho' hg'
       go_simp
       go_wp2;go_roundw
       case rel=>exact⟨p+1,_,by omega,by go_num,HO.o,hbw',G⟩
       case measure=>simp[intOf];omega
     ·have b3:((U.at' s p:Int)==127)=true:=by rw[hx3];rfl
      have g1:127≤U.at' s p:=(by omega);have g2:U.at' s p≤127:=(by omega);clear hx3;have hx2:bs.length+h.size≤140737488355328:=(by omega);go_wp2_with (first
       |(go_at_call 103;refine(back_any (U.at' s p) _ rfl _ _ hl2 hlt).mono ?_;rintro e w3 ⟨rfl,rfl⟩)
       |(at_builtin;refine wpList_app_str _ 63 9 5 underlying63 underlying9 info_u8 rfl _ _ rfl w.heap.size u9 _ _ rfl how h rfl hx2 hzz ?_))
      intro v1 w1 ho1 hg1;have hb1:=bel_grown hbw hg1 (fun k hk=>(how.lt k hk).1);have hz1:w.heap.size≤w1.heap.size:=hb1.size;clear how hg1;go_wp2
      go_region_law (refine step_app_lit 63 5 (.int .u8 0) 1 1 underlying63 info_u8 rfl (by decide) rfl (.tmp 50) (.tmp 57) rfl w.heap.size v1 _ _ w1 _ 2 rfl rfl ho1 rfl (by simp[Value.oneCell']) (by omega) (by omega) hz1 ?_;intro v' w' ho' hg')
      all_goals
       have hbw':=bel_grown hb1 hg' (fun k hk=>(ho1.lt k hk).1);have HO:Hd (w'.ownsRow w.heap.size 5 1 v' (bs++h.data.toList++[UInt8.ofNat (U.hxN (U.at' s p/16)),UInt8.ofNat (U.hxN (U.at' s p%16))]).length (cellsB (bs++h.data.toList++[UInt8.ofNat (U.hxN (U.at' s p/16)),UInt8.ofNat (U.hxN (U.at' s p%16))]))):=hd <|by
        rw[cellsB_app,cellsB_app,List.length_append,List.length_append,HNEW.o,←Lib.size_eq];exact ho'
       clear ho1 ho' hg'
       go_simp
       go_wp2;go_roundw
       case rel=>exact⟨p+1,_,by omega,by go_num,HO.o,hbw',G⟩
       case measure=>simp[intOf];omega
    ·rw[show f (UInt8.ofNat (U.at' s p))=[UInt8.ofNat (U.at' s p)] by rw[HF.o];exact U.wrB_self _ _ _ _ hlt hb0 hx]at hstep
     have G:Hd (bs++[UInt8.ofNat (U.at' s p)]=34::(s.data.toList.take (p+1)).flatMap f):=hd <|by rw[hstep,hr.o];rfl
     have HNEW:Hd (cellsB [UInt8.ofNat (U.at' s p)]=[.int .u8 (U.at' s p:Int)]):=hd <|by
      simp only[cellsB,List.map_cons,List.map_nil];rw[U.ofNat_toNat _ hlt]
     have g32:32≤U.at' s p:=(by omega);have b3:((U.at' s p:Int)==127)=decide (U.at' s p=127):=(by rw[Bool.eq_iff_iff];simp;omega);have hx2:true=true→decide (U.at' s p=127)=false:=(by intro h;simp;intro h2;exact hx (.inr ⟨h,h2⟩));have b4:true=true→((U.at' s p:Int)==127)=false:=fun h=>by rw[b3];exact hx2 h
     have b5:=b4 rfl;clear hstep hb0 hx b3 hx2 b4;go_wp2_with (first
      |(go_at_call 103;refine(back_any (U.at' s p) _ rfl _ _ hl2 hlt).mono ?_;rintro e w3 ⟨rfl,rfl⟩)
      |(at_builtin;refine wpList_app_lit 63 5 (.int .u8 0) 1 1 underlying63 info_u8 rfl (by decide) rfl _ _ rfl w.heap.size u9 bs.length (cellsB bs) wr #[.int .u8 (U.at' s p:Int)] 1 rfl rfl how rfl ?_ ?_ ?_ hzz ?_))
     any_goals (first|omega|(simp[Value.oneCell'];done))
     intro v' w' ho' hg';have hbw':=bel_grown hbw hg' (fun k hk=>(how.lt k hk).1);have HO:Hd (w'.ownsRow w.heap.size 5 1 v' (bs++[UInt8.ofNat (U.at' s p)]).length (cellsB (bs++[UInt8.ofNat (U.at' s p)]))):=hd <|by
      rw[cellsB_app,List.length_append,HNEW.o];exact ho'
     clear how ho' hg';go_wp2;go_roundw
     case rel=>exact⟨p+1,_,by omega,by go_num,HO.o,hbw',G⟩
     case measure=>simp[intOf];omega
   ·have b0:((U.backL l.data.toList (U.at' s p):Int)!=0)=true:=by rw[bne_iff_ne];omega
    rw[show f (UInt8.ofNat (U.at' s p))=[92,UInt8.ofNat (U.backL l.data.toList (U.at' s p))] by rw[HF.o];exact U.wrB_back _ _ _ _ hlt hb0]at hstep;have G:Hd (bs++[92,UInt8.ofNat (U.backL l.data.toList (U.at' s p))]=34::(s.data.toList.take (p+1)).flatMap f):=hd <|by rw[hstep,hr.o];rfl
    have HNEW:Hd (cellsB [92,UInt8.ofNat (U.backL l.data.toList (U.at' s p))]=[.int .u8 92,.int .u8 (U.backL l.data.toList (U.at' s p):Int)]):=hd <|by
     simp only[cellsB,List.map_cons,List.map_nil];rw[U.ofNat_toNat _ hbk];rfl
    clear hstep hb0;go_wp2_with (first
     |(go_at_call 103;refine(back_any (U.at' s p) _ rfl _ _ hl2 hlt).mono ?_;rintro e w3 ⟨rfl,rfl⟩)
     |(at_builtin;refine wpList_app_lit 63 5 (.int .u8 0) 1 1 underlying63 info_u8 rfl (by decide) rfl _ _ rfl w.heap.size u9 bs.length (cellsB bs) wr #[.int .u8 92,.int .u8 (U.backL l.data.toList (U.at' s p):Int)] 2 rfl rfl how rfl ?_ ?_ ?_ hzz ?_))
    any_goals (first|omega|(simp[Value.oneCell'];done))
    intro v' w' ho' hg';have hbw':=bel_grown hbw hg' (fun k hk=>(how.lt k hk).1);have HO:Hd (w'.ownsRow w.heap.size 5 1 v' (bs++[92,UInt8.ofNat (U.backL l.data.toList (U.at' s p))]).length (cellsB (bs++[92,UInt8.ofNat (U.backL l.data.toList (U.at' s p))]))):=hd <|by
     rw[cellsB_app,List.length_append,HNEW.o];exact ho'
    clear how ho' hg';go_wp2;go_roundw
    case rel=>exact⟨p+1,_,by omega,by go_num,HO.o,hbw',G⟩
    case measure=>simp[intOf];omega
  ·have G:Hd (bs++[34]=34::s.data.toList.flatMap f++[34]):=hd <|by
    rw[hr.o,List.take_of_length_le (by rw[←Lib.size_eq];omega)]
   go_wp2_with (at_builtin;refine wpList_app_lit 63 5 (.int .u8 0) 1 1 underlying63 info_u8 rfl (by decide) rfl _ _ rfl w.heap.size u9 bs.length (cellsB bs) _ #[.int .u8 34] 1 rfl rfl how rfl ?c1 ?c2 ?c3 hzz ?_)
   case c1=>simp[Value.oneCell']
   case c2=>omega
   case c3=>omega
   intro v' w' ho' hg';have hbw':=bel_grown hbw hg' (fun k hk=>(how.lt k hk).1);have HO:w'.ownsRow w.heap.size 5 1 v' (bs++[34]).length (cellsB (bs++[34])):=by
    rw[cellsB_app,List.length_append];exact ho'
   have io:=IsL.own HO;have hcv:=run_string_of w' 63 9 5 underlying63 underlying5 underlying9 v' _ _ io;clear how ho' hg' HO io hr;go_wp2;go_ret;exact⟨ret_strV (by rw[G.o];rfl),hbw'⟩
theorem refQuote_any (s:ByteArray)(w:World)(hs:s.size≤1048576) :
  Calls prog 38 #[.string s] w fun e w'=>e=strR (U.wrS U.wrQ s)∧Below w.heap.size w w':=by
 cases hv:U.valid s with
 |false=>
  have V:=hd hv;have G:Hd (U.wrS U.wrQ s=([],4)):=hd <|by unfold U.wrS;rw[if_neg (by simp[hv])]
  clear hv;go_enter func38,ntmps38;go_wp2_with (go_at_call 65;refine(refValid_any _ _ (by omega)).mono ?_;rintro e w1 ⟨rfl,hb1⟩;rw[V.o])
  go_ret2;exact⟨ret_strR (by rw[G.o]) (by rw[G.o]),by assumption⟩
 |true=>
  have V:=hd hv;have G:Hd (U.wrS U.wrQ s=(34::s.data.toList.flatMap U.wrQ++[34],0)):=hd <|by unfold U.wrS;rw[if_pos hv]
  clear hv;go_enter func38,ntmps38;go_wp2_with (first
   |(go_at_call 65;refine(refValid_any _ _ (by omega)).mono ?_;rintro e w1 ⟨rfl,hb1⟩;rw[V.o])
   |(go_at_call 73;refine(written_true _ _ _ _ hs (by decide) (by decide)).mono ?_;rintro e w2 ⟨rfl,hb2⟩))
  go_ret2;exact⟨ret_strR (by rw[G.o];rfl) (by rw[G.o]),bel (by assumption) (by assumption)⟩
end Go.Proofs.YtieknenhfeejiaaGreatDoor
