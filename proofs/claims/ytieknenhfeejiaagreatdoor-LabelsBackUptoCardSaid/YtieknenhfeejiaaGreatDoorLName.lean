/- The walks of lex.letter, lex.digit, lex.nameEnd, lex.IsLabel and of the reference's letter, digit, IsLabel. -/
import Derived.Test.YtieknenhfeejiaaGreatDoorLMm
set_option maxHeartbeats 1000000
set_option linter.unusedVariables false
set_option linter.unusedSimpArgs false
namespace Go.Proofs.YtieknenhfeejiaaGreatDoor
open _root_.Go.Proofs.Tryz
open Go.RowKit
namespace L
def ltr (c:Nat):Bool:=decide ((97≤c∧c≤122)∨(65≤c∧c≤90)∨c=95)
def dgt (c:Nat):Bool:=decide (48≤c∧c≤57)
def nok (colons:Bool)(c:UInt8):Bool:=ltr c.toNat ||dgt c.toNat ||(colons && c.toNat==58)
def nlen (colons:Bool)(l:List UInt8):Nat:=(l.takeWhile (nok colons)).length
theorem nlen_nil (b:Bool):nlen b []=0:=rfl
theorem nlen_yes {b:Bool}{c:UInt8}{l:List UInt8}(h:nok b c=true):nlen b (c::l)=nlen b l+1:=by
 unfold nlen;rw[List.takeWhile_cons_of_pos h];rfl
theorem nlen_no {b:Bool}{c:UInt8}{l:List UInt8}(h:nok b c=false):nlen b (c::l)=0:=by
 unfold nlen;rw[List.takeWhile_cons_of_neg (by simp[h])];rfl
theorem nlen_le (b:Bool)(l:List UInt8):nlen b l≤l.length:=by
 unfold nlen;exact(List.takeWhile_sublist _).length_le
theorem nlen_all:∀(b:Bool) (l:List UInt8),nlen b l=l.length↔l.all (nok b)=true
 |b,[]=>by simp[nlen]
 |b,c::l=>by
  cases h:nok b c with
  |true=>rw[nlen_yes h,List.all_cons,h,Bool.true_and,←nlen_all b l];simp
  |false=>rw[nlen_no h,List.all_cons,h];simp
def labL:List UInt8→Bool
 |[]=>false
 |c::r=>ltr c.toNat && (c::r).all (nok false)
def lab (s:ByteArray):Bool:=labL s.data.toList
end L
theorem letter_any (c:Nat)(w:World)(h:c<256) :
  Calls prog 76 #[.int .u8 c] w fun e w'=>e=.returned (.bool (L.ltr c))∧w=w':=by
 by_cases h3:c=95
 ·have G:Hd (L.ltr c=true):=hd <|by unfold L.ltr;simp[h3]
  subst h3;go_enter func76,ntmps76;go_wp2;go_ret;exact⟨ret_bool (by first|exact G.o.symm|(rw[G.o];simp;omega)),rfl⟩
 have e3:((c:Int)==95)=false:=(by rw[bf];omega);by_cases h1:97≤c∧c≤122
 ·have G:Hd (L.ltr c=true):=hd <|by unfold L.ltr;simp[h1]
  obtain⟨a1,a2⟩:=h1;go_enter func76,ntmps76;go_wp2;go_ret;exact⟨ret_bool (by first|exact G.o.symm|(rw[G.o];simp;omega)),rfl⟩
 by_cases h2:65≤c∧c≤90
 ·have G:Hd (L.ltr c=true):=hd <|by unfold L.ltr;simp[h2]
  obtain⟨a1,a2⟩:=h2;go_enter func76,ntmps76;go_wp2
  all_goals first|(exfalso;omega)|(go_ret;exact⟨ret_bool (by first|exact G.o.symm|(rw[G.o];simp;omega)),rfl⟩)
 ·have G:Hd (L.ltr c=false):=hd <|by unfold L.ltr;simp[h1,h2,h3]
  go_enter func76,ntmps76;go_wp2
  all_goals first|(exfalso;omega)|(go_ret;exact⟨ret_bool (by first|exact G.o.symm|(rw[G.o];simp;omega)),rfl⟩)
theorem ldigit_any (c:Nat)(w:World)(h:c<256) :
  Calls prog 68 #[.int .u8 c] w fun e w'=>e=.returned (.bool (L.dgt c))∧w=w':=by
 by_cases h1:48≤c∧c≤57
 ·have G:Hd (L.dgt c=true):=hd <|by unfold L.dgt;simp[h1]
  obtain⟨a1,a2⟩:=h1;go_enter func68,ntmps68;go_wp2;go_ret;exact⟨ret_bool (by first|exact G.o.symm|(rw[G.o];simp;omega)),rfl⟩
 ·have G:Hd (L.dgt c=false):=hd <|by unfold L.dgt;simp[h1]
  go_enter func68,ntmps68;go_wp2
  all_goals first|(exfalso;omega)|(go_ret;exact⟨ret_bool (by first|exact G.o.symm|(rw[G.o];simp;omega)),rfl⟩)
theorem refLetter_any (c:Nat)(w:World)(h:c<256) :
  Calls prog 56 #[.int .u8 c] w fun e w'=>e=.returned (.bool (L.ltr c))∧w=w':=by
 by_cases h3:c=95
 ·have G:Hd (L.ltr c=true):=hd <|by unfold L.ltr;simp[h3]
  subst h3;go_enter func56,ntmps56;go_wp2;go_ret;exact⟨ret_bool (by first|exact G.o.symm|(rw[G.o];simp;omega)),rfl⟩
 have e3:((c:Int)==95)=false:=(by rw[bf];omega);by_cases h1:97≤c∧c≤122
 ·have G:Hd (L.ltr c=true):=hd <|by unfold L.ltr;simp[h1]
  obtain⟨a1,a2⟩:=h1;go_enter func56,ntmps56;go_wp2;go_ret;exact⟨ret_bool (by first|exact G.o.symm|(rw[G.o];simp;omega)),rfl⟩
 by_cases h2:65≤c∧c≤90
 ·have G:Hd (L.ltr c=true):=hd <|by unfold L.ltr;simp[h2]
  obtain⟨a1,a2⟩:=h2;go_enter func56,ntmps56;go_wp2
  all_goals first|(exfalso;omega)|(go_ret;exact⟨ret_bool (by first|exact G.o.symm|(rw[G.o];simp;omega)),rfl⟩)
 ·have G:Hd (L.ltr c=false):=hd <|by unfold L.ltr;simp[h1,h2,h3]
  go_enter func56,ntmps56;go_wp2
  all_goals first|(exfalso;omega)|(go_ret;exact⟨ret_bool (by first|exact G.o.symm|(rw[G.o];simp;omega)),rfl⟩)
theorem refDigit_any (c:Nat)(w:World)(h:c<256) :
  Calls prog 58 #[.int .u8 c] w fun e w'=>e=.returned (.bool (L.dgt c))∧w=w':=by
 by_cases h1:48≤c∧c≤57
 ·have G:Hd (L.dgt c=true):=hd <|by unfold L.dgt;simp[h1]
  obtain⟨a1,a2⟩:=h1;go_enter func58,ntmps58;go_wp2;go_ret;exact⟨ret_bool (by first|exact G.o.symm|(rw[G.o];simp;omega)),rfl⟩
 ·have G:Hd (L.dgt c=false):=hd <|by unfold L.dgt;simp[h1]
  go_enter func58,ntmps58;go_wp2
  all_goals first|(exfalso;omega)|(go_ret;exact⟨ret_bool (by first|exact G.o.symm|(rw[G.o];simp;omega)),rfl⟩)
theorem data_drop (s:ByteArray)(k:Nat)(h:k<s.size):s.data.toList.drop k=s[k]::s.data.toList.drop (k+1):=
 List.drop_eq_getElem_cons (by simpa using h)
theorem nameEnd_any (s:ByteArray)(i:Nat)(b:Bool)(w:World)(hs:s.size≤1125899906842624)(hi:i≤s.size) :
  Calls prog 69 #[.string s,.int .i64 i,.bool b] w fun e w'=>e=.returned (.int .i64 ((i+L.nlen b (s.data.toList.drop i):Nat):Int))∧w=w':=by
 go_enter func69,ntmps69;go_wp2
 go_loop [1] (fun x=>∃k:Nat,k≤s.size∧x=.int .i64 k∧Hd (k+L.nlen b (s.data.toList.drop k)=i+L.nlen b (s.data.toList.drop i))) (fun x=>s.size-(intOf x).toNat)
 case atStart=>exact⟨i,hi,rfl,hd rfl⟩
 case round=>
  obtain⟨k,hk,rfl,hG⟩:=hrel;by_cases hlt:k<s.size
  ·have HDR:=hd (data_drop s k hlt)
   have hc:(s[k]'hlt).toNat<256:=(s[k]'hlt).toNat_lt;have YES:Hd (L.nok b (s[k]'hlt)=true→(k+1)+L.nlen b (s.data.toList.drop (k+1))=i+L.nlen b (s.data.toList.drop i)):=hd fun h=>by
    rw[←hG.o,HDR.o,L.nlen_yes h];omega
   have NO:Hd (L.nok b (s[k]'hlt)=false→k=i+L.nlen b (s.data.toList.drop i)):=hd fun h=>by
    rw[←hG.o,HDR.o,L.nlen_no h];rfl
   clear hG HDR;cases hl:L.ltr (s[k]'hlt).toNat with
   |true=>
    have V:=hd hl;have G:=hd (YES.o (by unfold L.nok;rw[hl];rfl));clear YES NO hl;go_wp2_with (go_at_call 76;refine(letter_any _ _ hc).mono ?_;rintro e w' ⟨rfl,rfl⟩;rw[V.o])
    go_round
    case rel=>exact⟨k+1,by omega,by go_num,G⟩
    case measure=>simp[intOf];omega
   |false=>
    cases hg:L.dgt (s[k]'hlt).toNat with
    |true=>
     have V:=hd hl;have V2:=hd hg;have G:=hd (YES.o (by unfold L.nok;rw[hl,hg];rfl));clear YES NO hl hg;go_wp2_with (first|(go_at_call 76;refine(letter_any _ _ hc).mono ?_;rintro e w' ⟨rfl,rfl⟩;rw[V.o])|(go_at_call 68;refine(ldigit_any _ _ hc).mono ?_;rintro e w' ⟨rfl,rfl⟩;rw[V2.o]))
     go_round
     case rel=>exact⟨k+1,by omega,by go_num,G⟩
     case measure=>simp[intOf];omega
    |false=>
     have V:=hd hl;have V2:=hd hg;by_cases h58:(s[k]'hlt).toNat=58
     ·have e58:(((s[k]'hlt).toNat:Int)==58)=true:=by rw[h58];rfl
      cases b with
      |true=>
       have G:=hd (YES.o (by unfold L.nok;rw[hl,hg,h58];rfl));clear YES NO hl hg h58;go_wp2_with (first|(go_at_call 76;refine(letter_any _ _ hc).mono ?_;rintro e w' ⟨rfl,rfl⟩;rw[V.o])|(go_at_call 68;refine(ldigit_any _ _ hc).mono ?_;rintro e w' ⟨rfl,rfl⟩;rw[V2.o]))
       go_round
       case rel=>exact⟨k+1,by omega,by go_num,G⟩
       case measure=>simp[intOf];omega
      |false=>
       have G:=hd (NO.o (by unfold L.nok;rw[hl,hg];rfl));clear YES NO hl hg h58;go_wp2_with (first|(go_at_call 76;refine(letter_any _ _ hc).mono ?_;rintro e w' ⟨rfl,rfl⟩;rw[V.o])|(go_at_call 68;refine(ldigit_any _ _ hc).mono ?_;rintro e w' ⟨rfl,rfl⟩;rw[V2.o]))
       go_ret;exact⟨ret_int (by have:=G.o;omega),rfl⟩
     ·have e58:(((s[k]'hlt).toNat:Int)==58)=false:=by rw[bf];omega
      have G:=hd (NO.o (by unfold L.nok;rw[hl,hg];cases b<;>simp[h58]));clear YES NO hl hg h58;cases b with
      |true=>
       go_wp2_with (first|(go_at_call 76;refine(letter_any _ _ hc).mono ?_;rintro e w' ⟨rfl,rfl⟩;rw[V.o])|(go_at_call 68;refine(ldigit_any _ _ hc).mono ?_;rintro e w' ⟨rfl,rfl⟩;rw[V2.o]))
       go_ret;exact⟨ret_int (by have:=G.o;omega),rfl⟩
      |false=>
       go_wp2_with (first|(go_at_call 76;refine(letter_any _ _ hc).mono ?_;rintro e w' ⟨rfl,rfl⟩;rw[V.o])|(go_at_call 68;refine(ldigit_any _ _ hc).mono ?_;rintro e w' ⟨rfl,rfl⟩;rw[V2.o]))
       go_ret;exact⟨ret_int (by have:=G.o;omega),rfl⟩
  ·have G:Hd (k=i+L.nlen b (s.data.toList.drop i)):=hd <|by
    rw[←hG.o,List.drop_eq_nil_of_le (by rw[←Lib.size_eq];omega),L.nlen_nil];rfl
   go_wp2;go_ret;exact⟨ret_int (by have:=G.o;omega),rfl⟩
theorem L.lab_cons (s:ByteArray)(h:0<s.size):L.lab s=(L.ltr (s[0]'h).toNat && decide (L.nlen false s.data.toList=s.size)):=by
 have e:=data_drop s 0 h;rw[List.drop_zero]at e;unfold L.lab;rw[Bool.eq_iff_iff,Bool.and_eq_true,decide_eq_true_eq,Lib.size_eq,L.nlen_all]
 conv=>lhs;rw[e]
 unfold L.labL;rw[Bool.and_eq_true,←e]
theorem isLabel_any (s:ByteArray)(w:World)(hs:s.size≤1125899906842624) :
  Calls prog 44 #[.string s] w fun e w'=>e=.returned (.bool (L.lab s))∧w=w':=by
 by_cases h0:s.size=0
 ·have hnil:s.toList=[]:=by rw[Lib.toList_data];exact List.eq_nil_of_length_eq_zero (by rw[←Lib.size_eq];exact h0)
  have hem:s.toList.isEmpty=true:=(by rw[hnil];rfl);have G:Hd (L.lab s=false):=hd <|by unfold L.lab;rw[←Lib.toList_data,hnil];rfl
  go_enter func44,ntmps44;go_wp2;go_ret;exact⟨ret_bool G.o.symm,rfl⟩
 ·have hp:0<s.size:=by omega
  have hpi:(0:Int)<(s.size:Int):=(by omega);have hc:(s[0]'hp).toNat<256:=(s[0]'hp).toNat_lt;have hnn:¬ s.toList=[]:=(by rw[Lib.toList_data];intro e;have:=congrArg List.length e;rw[←Lib.size_eq]at this;exact h0 this);have hem:s.toList.isEmpty=false:=(by rw[List.isEmpty_eq_false_iff];exact hnn);have HLC:=hd (L.lab_cons s hp);have hD:List.drop 0 s.data.toList=s.data.toList:=rfl;have HN:=hd (show ∀W:World,Calls prog 69 #[.string s,.int .i64 0,.bool false] W fun e w'=>e=.returned (.int .i64 (L.nlen false s.data.toList:Nat))∧W=w' from fun W=>by
   have h:=nameEnd_any s 0 false W hs (Nat.zero_le _);rw[hD,Nat.zero_add]at h;exact h)
  clear hD;cases hl:L.ltr (s[0]'hp).toNat with
  |true=>
   have V:=hd hl;have G:Hd (L.lab s=decide (L.nlen false s.data.toList=s.size)):=hd <|by rw[HLC.o,hl,Bool.true_and]
   clear hl HLC;generalize L.nlen false s.data.toList=m at *;by_cases hm:m=s.size
   ·have hb:((m:Int)==(s.size:Int))=true:=by rw[hm];simp
    have G2:Hd (L.lab s=true):=hd <|by rw[G.o,hm];simp
    clear hm;go_enter func44,ntmps44;go_wp2_with (first|(go_at_call 76;refine(letter_any _ _ hc).mono ?_;rintro e w' ⟨rfl,rfl⟩;rw[V.o])|(go_at_call 69;refine(HN.o _).mono ?_;rintro e w' ⟨rfl,rfl⟩))
    go_ret;exact⟨ret_bool G2.o.symm,rfl⟩
   ·have hb:((m:Int)==(s.size:Int))=false:=by rw[bf];omega
    have G2:Hd (L.lab s=false):=hd <|by rw[G.o];simp[hm]
    clear hm;go_enter func44,ntmps44;go_wp2_with (first|(go_at_call 76;refine(letter_any _ _ hc).mono ?_;rintro e w' ⟨rfl,rfl⟩;rw[V.o])|(go_at_call 69;refine(HN.o _).mono ?_;rintro e w' ⟨rfl,rfl⟩))
    go_ret;exact⟨ret_bool G2.o.symm,rfl⟩
  |false=>
   have V:=hd hl;have G:Hd (L.lab s=false):=hd <|by rw[HLC.o,hl,Bool.false_and]
   clear hl HLC;go_enter func44,ntmps44;go_wp2_with (go_at_call 76;refine(letter_any _ _ hc).mono ?_;rintro e w' ⟨rfl,rfl⟩;rw[V.o])
   go_ret;exact⟨ret_bool G.o.symm,rfl⟩
theorem L.lab_false (s:ByteArray)(k:Nat)(h:k<s.size)(h1:L.ltr (s[k]'h).toNat=false)(h2:k=0∨L.dgt (s[k]'h).toNat=false):L.lab s=false:=by
 have h0:0<s.size:=(by omega);rw[L.lab_cons s h0];rcases h2 with rfl|h2
 ·rw[h1];rfl
 ·have:L.nlen false s.data.toList≠s.size:=by
   rw[Lib.size_eq,Ne,L.nlen_all,List.all_eq_true];intro e;have e2:=e (s[k]'h) (by
    have:=data_drop s k h;exact List.mem_of_mem_drop (i:=k) (by rw[this];exact List.mem_cons_self ..))
   unfold L.nok at e2;rw[h1,h2]at e2;simp at e2
  simp[this]
theorem L.lab_true (s:ByteArray)(h0:0<s.size)(h:∀k (hk:k<s.size),L.ltr (s[k]'hk).toNat=true∨(k≠0∧L.dgt (s[k]'hk).toNat=true)):L.lab s=true:=by
 rw[L.lab_cons s h0];rw[Bool.and_eq_true,decide_eq_true_eq]
 constructor
 ·rcases h 0 h0 with h1|h1
  ·exact h1
  ·exact absurd rfl h1.1
 ·rw[Lib.size_eq,L.nlen_all,List.all_eq_true]
  intro c hc;obtain⟨k,hk,rfl⟩:=List.mem_iff_getElem.1 hc;have hk2:k<s.size:=(by rw[Lib.size_eq];exact hk);have:=h k hk2;unfold L.nok;show (L.ltr (s[k]'hk2).toNat ||L.dgt (s[k]'hk2).toNat ||_)=true
  rcases this with h1|h1
  ·rw[h1];rfl
  ·rw[h1.2];simp
theorem refIsLabel_any (s:ByteArray)(w:World)(hs:s.size≤1125899906842624) :
  Calls prog 72 #[.string s] w fun e w'=>e=.returned (.bool (L.lab s))∧w=w':=by
 go_enter func72,ntmps72;go_wp2
 go_loop [3] (fun x=>∃k:Nat,k≤s.size∧x=.int .i64 k∧Hd (∀j (hj:j<s.size),j<k→L.ltr (s[j]'hj).toNat=true∨(j≠0∧L.dgt (s[j]'hj).toNat=true))) (fun x=>s.size-(intOf x).toNat)
 case atStart=>exact⟨0,Nat.zero_le _,rfl,hd fun j _ h=>by omega⟩
 case round=>
  obtain⟨k,hk,rfl,hG⟩:=hrel;by_cases hlt:k<s.size
  ·have hc:(s[k]'hlt).toNat<256:=(s[k]'hlt).toNat_lt
   have NEXT:Hd ((L.ltr (s[k]'hlt).toNat=true∨(k≠0∧L.dgt (s[k]'hlt).toNat=true))→∀j (hj:j<s.size),j<k+1→L.ltr (s[j]'hj).toNat=true∨(j≠0∧L.dgt (s[j]'hj).toNat=true)):=hd fun h j hj hjk=>by
    by_cases e:j=k
    ·subst e;exact h
    ·exact hG.o j hj (by omega)
   have BAD:Hd (L.ltr (s[k]'hlt).toNat=false→(k=0∨L.dgt (s[k]'hlt).toNat=false)→L.lab s=false):=hd fun h1 h2=>L.lab_false s k hlt h1 h2
   clear hG;cases hl:L.ltr (s[k]'hlt).toNat with
   |true=>
    have V:=hd hl;have G:=hd (NEXT.o (.inl hl));clear NEXT BAD hl;go_wp2_with (go_at_call 56;refine(refLetter_any _ _ hc).mono ?_;rintro e w' ⟨rfl,rfl⟩;rw[V.o])
    go_round
    case rel=>exact⟨k+1,by omega,by go_num,G⟩
    case measure=>simp[intOf];omega
   |false=>
    have V:=hd hl;by_cases hk0:k=0
    ·have G:=hd (BAD.o hl (.inl hk0))
     have e0:((k:Int)==0)=true:=(by rw[hk0];rfl);clear NEXT BAD hl hk0;go_wp2_with (go_at_call 56;refine(refLetter_any _ _ hc).mono ?_;rintro e w' ⟨rfl,rfl⟩;rw[V.o])
     go_ret;exact⟨ret_bool G.o.symm,rfl⟩
    ·have e0:((k:Int)==0)=false:=by rw[bf];omega
     cases hg:L.dgt (s[k]'hlt).toNat with
     |true=>
      have V2:=hd hg;have G:=hd (NEXT.o (.inr ⟨hk0,hg⟩));clear NEXT BAD hl hg hk0;go_wp2_with (first|(go_at_call 56;refine(refLetter_any _ _ hc).mono ?_;rintro e w' ⟨rfl,rfl⟩;rw[V.o])|(go_at_call 58;refine(refDigit_any _ _ hc).mono ?_;rintro e w' ⟨rfl,rfl⟩;rw[V2.o]))
      go_round
      case rel=>exact⟨k+1,by omega,by go_num,G⟩
      case measure=>simp[intOf];omega
     |false=>
      have V2:=hd hg;have G:=hd (BAD.o hl (.inr hg));clear NEXT BAD hl hg hk0;go_wp2_with (first|(go_at_call 56;refine(refLetter_any _ _ hc).mono ?_;rintro e w' ⟨rfl,rfl⟩;rw[V.o])|(go_at_call 58;refine(refDigit_any _ _ hc).mono ?_;rintro e w' ⟨rfl,rfl⟩;rw[V2.o]))
      go_ret;exact⟨ret_bool G.o.symm,rfl⟩
  ·have hkk:k=s.size:=by omega
   by_cases h0:s.size=0
   ·have hnil:s.toList=[]:=by rw[Lib.toList_data];exact List.eq_nil_of_length_eq_zero (by rw[←Lib.size_eq];exact h0)
    have hem:s.toList.isEmpty=true:=(by rw[hnil];rfl);have G:Hd (L.lab s=false):=hd <|by unfold L.lab;rw[←Lib.toList_data,hnil];rfl
    clear hkk h0;go_wp2;go_ret;exact⟨ret_bool G.o.symm,rfl⟩
   ·have hnn:¬ s.toList=[]:=by rw[Lib.toList_data];intro e;have:=congrArg List.length e;rw[←Lib.size_eq]at this;exact h0 this
    have hem:s.toList.isEmpty=false:=(by rw[List.isEmpty_eq_false_iff];exact hnn);have G:Hd (L.lab s=true):=hd <|L.lab_true s (by omega) fun j hj=>hG.o j hj (by omega)
    clear hkk h0;go_wp2;go_ret;exact⟨ret_bool G.o.symm,rfl⟩
end Go.Proofs.YtieknenhfeejiaaGreatDoor
