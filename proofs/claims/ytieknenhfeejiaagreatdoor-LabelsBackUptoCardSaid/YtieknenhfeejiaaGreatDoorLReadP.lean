/- What a text is read as: the set, or the error. No function of the program in .. -/
import Derived.Test.YtieknenhfeejiaaGreatDoorScScan
import Derived.Test.YtieknenhfeejiaaGreatDoorLRb
set_option maxHeartbeats 8000000
set_option maxRecDepth 100000
set_option linter.unusedVariables false
set_option linter.unusedSimpArgs false
namespace Go.Proofs.YtieknenhfeejiaaGreatDoor
open _root_.Go.Proofs.Tryz
open Go.RowKit
namespace U
theorem unq_len (q:Nat):∀(n:Nat) (l r:List UInt8),l.length=n→unq q l=some r→r.length≤l.length:=by
 intro n;induction n using Nat.strongRecOn with
 |_ n ih=>
  intro l r hn h;cases l with
  |nil=>rw[unq_nil]at h;simp only[Option.some.injEq]at h;subst h;simp
  |cons c t=>
   by_cases hc:c.toNat=92
   ·cases he:escL q t with
    |none=>rw[unq_none q c t hc he]at h;cases h
    |some p=>
     obtain⟨bs,k⟩:=p;have hk:=escL_len q t bs k he;rw[unq_some q c t hc bs k he]at h;cases hu:unq q (t.drop k) with
     |none=>rw[hu]at h;cases h
     |some u=>
      rw[hu]at h;simp only[Option.map_some,Option.some.injEq]at h;subst h;have:=ih _ (by rw[List.length_cons]at hn;simp;omega) (t.drop k) u rfl hu;rw[List.length_drop]at this;rw[List.length_append,List.length_cons];omega
   ·rw[unq_plain q c t hc]at h
    cases hu:unq q t with
    |none=>rw[hu]at h;cases h
    |some u=>
     rw[hu]at h;simp only[Option.map_some,Option.some.injEq]at h;subst h;have:=ih _ (by rw[List.length_cons]at hn;omega) t u rfl hu;rw[List.length_cons,List.length_cons];omega
theorem unquote_len (s:ByteArray):(unquote s).1.length≤s.size:=by
 unfold unquote;split
 ·simp
 ·split
  ·simp
  ·split
   ·simp only[List.length_take,List.length_drop];rw[Lib.size_eq];omega
   ·cases h:unq (at' s 0) ((s.data.toList.drop 1).take (s.size-2)) with
    |none=>simp[unqR]
    |some r=>
     have:=unq_len _ _ _ _ rfl h;simp only[List.length_take,List.length_drop]at this;simp only[unqR];split
     ·simp only;omega
     ·simp
end U
namespace SC
theorem rdB_short:∀ {R:List Tk},R≠[]→R.length<3→rdB R=none
 |[],h,_=>absurd rfl h
 |[_],_,_=>rfl
 |[_,_],_,_=>rfl
 |_::_::_::_,_,h=>by simp at h;omega
theorem rdB_no {a b v:Tk}{R:List Tk}(h:tri a b v=false):rdB (a::b::v::R)=none:=by
 cases R with
 |nil=>show (if _ then _ else _)=_;rw[if_neg (by rw[h];decide)]
 |cons c r=>show (if _ then _ else _)=_;rw[if_neg (by rw[h];simp)]
theorem rdB_end {a b v:Tk}(h:tri a b v=true):rdB [a,b,v]=some [(a.text,uq v)]:=by
 show (if _ then _ else _)=_;rw[if_pos h]
theorem rdB_sep {a b v c:Tk}{R:List Tk}(h:tri a b v=true)(h2:isOp c 44=false):rdB (a::b::v::c::R)=none:=by
 show (if _ then _ else _)=_;rw[if_neg (by rw[h,h2];decide)]
theorem rdB_go {a b v c:Tk}{R:List Tk}(h:tri a b v=true)(h2:isOp c 44=true):rdB (a::b::v::c::R)=(rdB R).map ((a.text,uq v) :: ·):=by
 show (if _ then _ else _)=_;rw[if_pos (by rw[h,h2];rfl)]
theorem uq_size (t:Tk):(uq t).size≤t.text.size:=by
 unfold uq;have:=U.unquote_len t.text;show (U.unquote t.text).1.toArray.size≤_
 simpa using this
def seg (T:List Tk)(k e:Nat):List Tk:=(T.take e).drop k
theorem seg_end {T:List Tk}{k e:Nat}(h:e≤k):seg T k e=[]:=by unfold seg;rw[List.drop_eq_nil_of_le];rw[List.length_take];omega
theorem seg_cons {T:List Tk}{k e:Nat}(h:k<e)(he:e≤T.length):seg T k e=(T[k]'(by omega))::seg T (k+1) e:=by
 unfold seg;rw[List.drop_eq_getElem_cons (by rw[List.length_take];omega),List.getElem_take]
theorem seg_len {T:List Tk}{k e:Nat}(he:e≤T.length):(seg T k e).length=e-k:=by unfold seg;rw[List.length_drop,List.length_take];omega
def bracedA (T:List Tk)(k:Nat):Option (List Lb):=braced (T.drop k)
theorem braced_short {T:List Tk}{k:Nat}(h:T.length<k+2):bracedA T k=none:=by
 unfold bracedA braced;cases hd:T.drop k with
 |nil=>rfl
 |cons t r=>
  have hl:=congrArg List.length hd;rw[List.length_drop,List.length_cons]at hl;have:r=[]:=List.eq_nil_of_length_eq_zero (by omega);subst this;simp
theorem braced_eq {T:List Tk}{k:Nat}(h:k+2≤T.length):bracedA T k=if isOp (T[k]'(by omega)) 123 && isOp (T[T.length-1]'(by omega)) 125 then rdB (seg T (k+1) (T.length-1)) else none:=by
 unfold bracedA braced;rw[List.drop_eq_getElem_cons (by omega)];simp only;have h1:(T.drop (k+1)).getLast?=some (T[T.length-1]'(by omega)):=by
  rw[List.getLast?_eq_getElem?,List.length_drop,List.getElem?_drop,List.getElem?_eq_getElem (by omega)];congr 1
  congr 1
  omega
 rw[h1];simp only;have h2:(T.drop (k+1)).dropLast=seg T (k+1) (T.length-1):=by
  unfold seg;rw[List.dropLast_eq_take,List.length_drop,List.drop_take];congr 1
  omega
 rw[h2]
end SC
namespace L
def rdAns:Option (List Lb)→List Lb×Int
 |none=>([],160)
 |some P=>(made P,mkErr P)
noncomputable def rdR (s:ByteArray):List Lb×Int:=match SC.scan s with
 | .bad _ e=>([],e)
 | .ok T=>rdAns (SC.rd T)
def RdA (w:World)(r:List Lb×Int)(e:Ending)(w':World):Prop:=
 ∃x,e=.returned (.tuple #[x,.int .i64 r.2])∧w'.ownsRow w.heap.size 35 2 x r.1.length (cellsL r.1)∧Below w.heap.size w w'
theorem rdA_nil {w w':World}{r:List Lb×Int}{e:Int}(h:r=([],e))(hb:Below w.heap.size w w'):RdA w r (.returned (.tuple #[.slice none 0 0,.int .i64 e])) w':=by
 subst h;exact⟨_,rfl,⟨rfl,.inl ⟨rfl,rfl⟩⟩,hb⟩
end L
theorem SC.rd_nil:SC.rd []=none:=rfl
theorem SC.rd_one {t:SC.Tk}(h:SC.kMet t=true):SC.rd [t]=some [(SC.nmB,t.text)]:=by
 unfold SC.rd;simp only;rw[if_pos h,if_pos trivial]
theorem SC.rd_met {t:SC.Tk}{r:List SC.Tk}(h:SC.kMet t=true)(hr:r≠[]):SC.rd (t::r)=(SC.bracedA (t::r) 1).map ([(SC.nmB,t.text)]++·):=by
 unfold SC.rd SC.bracedA;simp only;rw[if_pos h,if_neg hr];rfl
theorem SC.rd_no {t:SC.Tk}{r:List SC.Tk}(h:SC.kMet t=false):SC.rd (t::r)=(SC.bracedA (t::r) 0).map ([]++·):=by
 unfold SC.rd SC.bracedA;simp only;rw[if_neg (by rw[h];decide)];simp
theorem SC.isOp_eq (t:SC.Tk)(c:UInt8):SC.isOp t c=(decide (t.kind=6) && (t.text.toList==[c])):=by
 unfold SC.isOp;rw[Bool.eq_iff_iff];simp only[decide_eq_true_eq,Bool.and_eq_true,beq_iff_eq];have h:t.text=⟨#[c]⟩↔t.text.toList=[c]:=by
  rw[ByteArray.toList_eq]
  constructor
  ·intro e;rw[e]
  ·intro e;exact ByteArray.ext (Array.toList_inj.1 e)
 rw[h]
theorem lisop_any (t:SC.Tk)(c:UInt8)(w:World) :
  Calls prog 42 #[.agg #[.int .i64 (t.kind:Int),.string t.text,.int .i64 (t.pos:Int)],.string ⟨#[c]⟩] w fun e w'=>e=.returned (.bool (SC.isOp t c))∧Below w.heap.size w w':=by
 rw[SC.isOp_eq];obtain⟨k,x,p⟩:=t;have HB:=hd (show Below w.heap.size w (w.alloc (.cells #[.int .i64 (k:Int),.string x,.int .i64 (p:Int)] 53)) from (Below.refl _ _).alloc (Nat.le_refl _) _);by_cases h1:k=6
 ·have e1:((k:Int)==6)=true:=by rw[h1];rfl
  have P:Hd ((decide (k=6) && (x.toList==[c]))=(x.toList==[c])):=hd (by rw[h1];simp);clear h1;go_enter func42,ntmps42;go_wp2;go_ret;exact⟨ret_bool P.o.symm,HB.o⟩
 ·have e1:((k:Int)==6)=false:=by(rw[bf];omega)
  have P:Hd ((decide (k=6) && (x.toList==[c]))=false):=hd (by simp[h1]);clear h1;go_enter func42,ntmps42;go_wp2;go_ret;exact⟨ret_bool P.o.symm,HB.o⟩
theorem rop16_any (t:SC.Tk)(c:UInt8)(w:World) :
  Calls prog 75 #[.agg #[.int .i64 (t.kind:Int),.string t.text,.int .i64 (t.pos:Int)],.string ⟨#[c]⟩] w fun e w'=>e=.returned (.bool (SC.isOp t c))∧Below w.heap.size w w':=by
 rw[SC.isOp_eq];obtain⟨k,x,p⟩:=t;have HB:=hd (show Below w.heap.size w (w.alloc (.cells #[.int .i64 (k:Int),.string x,.int .i64 (p:Int)] 53)) from (Below.refl _ _).alloc (Nat.le_refl _) _);by_cases h1:k=6
 ·have e1:((k:Int)==6)=true:=by rw[h1];rfl
  have P:Hd ((decide (k=6) && (x.toList==[c]))=(x.toList==[c])):=hd (by rw[h1];simp);clear h1;go_enter func75,ntmps75;go_wp2;go_ret;exact⟨ret_bool P.o.symm,HB.o⟩
 ·have e1:((k:Int)==6)=false:=by(rw[bf];omega)
  have P:Hd ((decide (k=6) && (x.toList==[c]))=false):=hd (by simp[h1]);clear h1;go_enter func75,ntmps75;go_wp2;go_ret;exact⟨ret_bool P.o.symm,HB.o⟩
theorem lismet_any (t:SC.Tk)(w:World)(hs:t.text.size≤1125899906842624) :
  Calls prog 41 #[.agg #[.int .i64 (t.kind:Int),.string t.text,.int .i64 (t.pos:Int)]] w fun e w'=>e=.returned (.bool (SC.kMet t))∧Below w.heap.size w w':=by
 have C:=hd (fun W:World=>isLabel_any t.text W hs);obtain⟨k,x,p⟩:=t;have HB:=hd (show Below w.heap.size w (w.alloc (.cells #[.int .i64 (k:Int),.string x,.int .i64 (p:Int)] 53)) from (Below.refl _ _).alloc (Nat.le_refl _) _);simp only at C;clear hs;by_cases h1:k=1
 ·have e1:((k:Int)==1)=true:=by rw[h1];rfl
  have P:Hd (SC.kMet ⟨k,x,p⟩=true):=hd (by unfold SC.kMet;simp[h1]);clear h1;go_enter func41,ntmps41;go_wp2;go_ret;exact⟨ret_bool P.o.symm,HB.o⟩
 ·have e1:((k:Int)==1)=false:=by(rw[bf];omega)
  by_cases h2:k=2
  ·have e2:((k:Int)==2)=true:=by rw[h2];rfl
   have P:Hd (SC.kMet ⟨k,x,p⟩=true):=hd (by unfold SC.kMet;simp[h2]);clear h1 h2;go_enter func41,ntmps41;go_wp2;go_ret;exact⟨ret_bool P.o.symm,HB.o⟩
  ·have e2:((k:Int)==2)=false:=by(rw[bf];omega)
   by_cases h3:k=3
   ·have e3:((k:Int)==3)=true:=by rw[h3];rfl
    have P:Hd (SC.kMet ⟨k,x,p⟩=L.lab x):=hd (by unfold SC.kMet;simp[h3]);clear h1 h2 h3;go_enter func41,ntmps41;go_wp2_with (go_at_call 44;refine(C.o _).mono ?_;rintro e w1 ⟨rfl,rfl⟩)
    go_ret;exact⟨ret_bool P.o.symm,HB.o⟩
   ·have e3:((k:Int)==3)=false:=by(rw[bf];omega)
    have P:Hd (SC.kMet ⟨k,x,p⟩=false):=hd (by unfold SC.kMet;simp[h1,h2,h3]);clear h1 h2 h3;go_enter func41,ntmps41;go_wp2;go_ret;exact⟨ret_bool P.o.symm,HB.o⟩
namespace SC
theorem cellsT_at:∀(T:List Tk) (i:Nat) (hi:i<T.length),(cellsT T)[i*3]?=some (.int .i64 ((T[i]'hi).kind:Int))∧(cellsT T)[i*3+1]?=some (.string (T[i]'hi).text)∧(cellsT T)[i*3+2]?=some (.int .i64 ((T[i]'hi).pos:Int))
 |t::T,0,_=>⟨rfl,rfl,rfl⟩
 |t::T,i+1,hi=>by
  have h:=cellsT_at T i (by simpa using hi);have e:∀j,(cellsT (t::T))[(i+1)*3+j]?=(cellsT T)[i*3+j]?:=fun j=>by
   rw[show (i+1)*3+j=i*3+j+3 by omega];rfl
  have e0:=e 0;rw[Nat.add_zero,Nat.add_zero]at e0;rw[e0,e 1,e 2];exact h
theorem tok_at {w:World}{A:Option Addr}{n c:Nat}{T:List Tk}(h:IsL 3 w (.slice A n c) n (cellsT T))(i:Nat)(hi:i<T.length) :
  ∃b off,A=some ⟨b,off,none⟩∧b<w.heap.size∧w.cell? ⟨b,off+i*3,none⟩=some (.int .i64 ((T[i]'hi).kind:Int))∧w.cell? ⟨b,off+i*3+1,none⟩=some (.string (T[i]'hi).text)∧w.cell? ⟨b,off+i*3+2,none⟩=some (.int .i64 ((T[i]'hi).pos:Int)):=by
 obtain⟨hl,A',c',e,r⟩:=h;simp only[Value.slice.injEq,true_and]at e;obtain⟨rfl,_⟩:=e;have hz:=cellsT_len T;obtain⟨b,off,rfl,hb,hc⟩:=r.head (by omega);obtain⟨h0,h1,h2⟩:=cellsT_at T i hi;refine⟨b,off,rfl,hb,?_,?_,?_⟩
 ·rw[hc (i*3) (by omega)]
  rw[List.getElem?_eq_getElem (by omega)]at h0;exact h0
 ·rw[Nat.add_assoc,hc (i*3+1) (by omega)]
  rw[List.getElem?_eq_getElem (by omega)]at h1;exact h1
 ·rw[Nat.add_assoc,hc (i*3+2) (by omega)]
  rw[List.getElem?_eq_getElem (by omega)]at h2;exact h2
theorem go_small (s:ByteArray):∀m p br sq l,s.size-p=m→go s p br sq=.ok l→(∀t∈l,t.text.size≤s.size∧t.pos≤s.size)∧l.length≤s.size-p:=by
 intro m;induction m using Nat.strongRecOn with
 |_ m ih=>
  intro p br sq l hm h;rw[go]at h;split at h
  ·rename_i hlt
   cases ht:tok s (p+bl false (s.data.toList.drop p)) br sq with
   |bad e=>rw[ht]at h;exact absurd h (by simp)
   |ok k n b q=>
    rw[ht]at h;simp only at h;obtain⟨hn,hle⟩:=tok_n hlt ht;rw[dif_pos hn]at h;cases hg:go s (p+bl false (s.data.toList.drop p)+n) b q with
    |bad x e=>rw[hg]at h;exact absurd h (by simp[Out.pre])
    |ok l2=>
     rw[hg]at h;simp only[Out.pre,Out.ok.injEq]at h;obtain⟨h1,h2⟩:=ih _ (by omega) _ b q l2 rfl hg;subst h;refine⟨fun t htm=>?_,by simp;omega⟩;rcases List.mem_append.1 htm with h3|h3
     ·rw[List.mem_singleton]at h3
      subst h3;exact⟨by simp only[ByteArray.size_extract];omega,by simp only;omega⟩
     ·exact h1 t h3
  ·simp only[Out.ok.injEq]at h
   subst h;exact⟨fun t ht=>(by cases ht),Nat.zero_le _⟩
theorem go_err (s:ByteArray):∀m p br sq x e,s.size-p=m→go s p br sq=.bad x e→(e=110∨e=111∨e=112)∧x≤s.size:=by
 intro m;induction m using Nat.strongRecOn with
 |_ m ih=>
  intro p br sq x e hm h;rw[go]at h;split at h
  ·rename_i hlt
   cases ht:tok s (p+bl false (s.data.toList.drop p)) br sq with
   |bad er=>
    rw[ht]at h;simp only[Out.bad.injEq]at h;obtain⟨rfl,rfl⟩:=h;exact⟨tok_bad ht,by omega⟩
   |ok k n b q=>
    rw[ht]at h;simp only at h;obtain⟨hn,hle⟩:=tok_n hlt ht;rw[dif_pos hn]at h;cases hg:go s (p+bl false (s.data.toList.drop p)+n) b q with
    |bad y f=>
     rw[hg]at h;simp only[Out.pre,Out.bad.injEq]at h;obtain⟨rfl,rfl⟩:=h;exact ih _ (by omega) _ b q _ _ rfl hg
    |ok l2=>rw[hg]at h;exact absurd h (by simp[Out.pre])
  ·exact absurd h (by simp)
end SC
theorem tok_own {w:World}{B n:Nat}{v:Value}{T:List SC.Tk}(h:w.ownsRow B 53 3 v n (SC.cellsT T))(h0:0<T.length):∃g c,v=.slice (some ⟨g,0,none⟩) n c∧B≤g∧g<w.heap.size∧n≤c:=by
 rcases h.2 with ⟨rfl,e⟩|⟨g,cap,cur,rfl,hB,hg,hle,_⟩
 ·have h1:=h.1
  rw[SC.cellsT_len,e]at h1;omega
 ·exact⟨g,cap,rfl,hB,(Array.getElem?_eq_some_iff.1 hg).1,hle⟩
theorem tok_cells {w:World}{B n g c:Nat}{T:List SC.Tk}(h:w.ownsRow B 53 3 (.slice (some ⟨g,0,none⟩) n c) n (SC.cellsT T))(i:Nat)(hi:i<T.length) :
  w.cell? ⟨g,i*3,none⟩=some (.int .i64 ((T[i]'hi).kind:Int))∧w.cell? ⟨g,i*3+1,none⟩=some (.string (T[i]'hi).text)∧w.cell? ⟨g,i*3+2,none⟩=some (.int .i64 ((T[i]'hi).pos:Int)):=by
 obtain⟨b,off,e,_,h1,h2,h3⟩:=SC.tok_at (IsL.own h) i hi;simp only[Option.some.injEq,Addr.mk.injEq,and_true]at e;obtain⟨rfl,rfl⟩:=e;simpa using And.intro h1 (And.intro h2 h3)
theorem rdA_mk {w W w':World}{r:List Lb×Int}{P:List Lb}{x:Value}(h:r=L.rdAns (some P))(h0:Below w.heap.size w W)(ho:w'.ownsRow W.heap.size 35 2 x (L.made P).length (cellsL (L.made P)))(hb:Below W.heap.size W w') :
  L.RdA w r (.returned (.tuple #[x,.int .i64 (L.mkErr P)])) w':=by
 subst h;exact⟨x,rfl,own_mono ho h0.size,h0.trans (hb.mono h0.size)⟩
def slen:Value→Nat
 | .slice _ m _=>m
 |_=>0
theorem lread_any (s:ByteArray)(w:World)(N:Nm2 w)(hs:s.size≤33554432) :
  Calls prog 14 #[.string s] w fun e w'=>L.RdA w (L.rdR s) e w':=by
 have HS:=hd hs;have CS:=hd (scan_any s w N (by omega));have HSC:Hd (SC.scan s=SC.go s 0 false false):=hd (by unfold SC.scan;rw[if_neg (by omega)]);have HRR:Hd (L.rdR s=match SC.go s 0 false false with| .bad _ e=>([],e)| .ok T=>L.rdAns (SC.rd T)):=hd (by unfold L.rdR;rw[HSC.o];try(cases SC.go s 0 false false<;>rfl));rw[HSC.o]at CS;clear hs N;cases hg:SC.go s 0 false false with
 |bad p er=>
  obtain⟨her,hp⟩:=SC.go_err s _ 0 false false p er rfl hg;have heN:(er !=0)=true:=by(rw[bne_iff_ne];omega)
  rw[hg]at CS HRR;clear her hg HSC;go_enter func14,ntmps14;go_wp2_with fail
  refine CS.o.mono ?_;rintro e1 w1 ⟨rfl,hb⟩;go_wp2;go_ret2;exact L.rdA_nil HRR.o hb
 |ok T=>
  obtain⟨hsm,hlen⟩:=SC.go_small s _ 0 false false T rfl hg;have HSM:=hd hsm;have hTl:T.length≤33554432:=(by have:=HS.o;omega);rw[hg]at CS HRR;clear hg HSC hsm hlen;simp only at HRR;cases T with
  |nil=>
   rw[SC.rd_nil]at HRR;go_enter func14,ntmps14;go_wp2_with fail
   refine CS.o.mono ?_;rintro e1 w1 ⟨v,rfl,hown,hb⟩;obtain⟨A,c,rfl⟩:=own_shape hown;clear hown CS;go_wp2;go_ret2;exact L.rdA_nil HRR.o hb
  |cons t0 T0=>
   have h0T:0<(t0::T0).length:=(by simp);have hT0e:(t0::T0)[0]'h0T=t0:=rfl;have ht0:=(HSM.o t0 (by simp)).1;have CK:=hd (fun W:World=>lismet_any t0 W (by have:=HS.o;omega));have HM1:=hd (fun (h:SC.kMet t0=true) (hr:T0≠[])=>SC.rd_met h hr);have HM0:=hd (fun (h:SC.kMet t0=true) (hr:T0=[])=>(by rw[hr];exact SC.rd_one h:SC.rd (t0::T0)=some [(SC.nmB,t0.text)]));have HN:=hd (fun (h:SC.kMet t0=false)=>SC.rd_no (r:=T0) h);have HT0:Hd (T0=[]↔(t0::T0).length=1):=hd (by rw[List.length_cons];constructor;intro h;rw[h];rfl;intro h;exact List.eq_nil_of_length_eq_zero (by omega));generalize hT:t0::T0=T at *
   clear hT;go_enter func14,ntmps14;go_wp2_with fail
   refine CS.o.mono ?_;rintro e1 w1 ⟨v,rfl,hown,hb⟩;obtain⟨g,c,rfl,hBg,hgz,hnc⟩:=tok_own hown h0T;have HT:=hd hown;have HB1:=hd hb;have hz1:=hb.size;obtain⟨d0,d1,d2⟩:=tok_cells hown 0 h0T;simp only[Nat.zero_mul,Nat.zero_add,hT0e]at d0 d1 d2;have h0I:(0:Int)<(T.length:Int):=(by omega);clear hown hb CS;go_upto_region 5 with fail
   go_cut [27] from 19 to 27 (fun x wx=>x=.bool (SC.kMet t0)∧Hd (Below w1.heap.size w1 wx))
   case first=>
    go_wp2_with fail
    refine(CK.o _).mono ?_;rintro e2 w2 ⟨rfl,hb2⟩;have HB2:=hd hb2;clear hb2;go_wp2;go_meet;exact⟨rfl,HB2⟩
   case rest=>
    obtain⟨rfl,HB2⟩:=hcut;have HT2:=hd (own_below HT.o HB2.o);have HBW:=hd (HB1.o.trans (HB2.o.mono hz1));have hzc:=HBW.o.size;have hgc:g<wc.heap.size:=Nat.lt_of_lt_of_le hgz HB2.o.size;clear HT HB1 HB2 CK d0 d1 d2 hgz hz1;by_cases hone:SC.kMet t0=true∧T0=[]
    ·obtain⟨hm,ht⟩:=hone
     have hT1:T.length=1:=HT0.o.1 ht;have HRD:=hd (HM0.o hm ht);rw[HRD.o]at HRR;rw[hm,hT1];obtain⟨d0,d1,d2⟩:=tok_cells HT2.o 0 h0T;simp only[Nat.zero_mul,Nat.zero_add,hT0e]at d0 d1 d2;clear hm ht HM0 HM1 HN HT0 HRD;have HL0:=hd (LR.nil HBW.o);go_wp2_with (at_builtin;refine wp_lr_lit rfl _ _ rfl w wc _ [] SC.nmB t0.text HL0.o (by simp) _ rfl rfl rfl ?_)
     intro v3 w3 h3 hg3;obtain⟨A3,c3,rfl⟩:=own_shape h3.own;have HL3:Hd (LR w w3 (.slice A3 1 c3) [(SC.nmB,t0.text)]):=hd h3;clear h3 hg3 d0 d1 d2;have HMK:=hd (make_any A3 1 c3 [(SC.nmB,t0.text)] w3 (IsL.own HL3.o.own) (by omega) (by intro y hy;simp at hy;subst hy;have:=HS.o;exact⟨by simp only;decide,by simp only;omega⟩));go_wp2_with fail
     all_goals
      refine HMK.o.mono ?_;rintro e4 w4 ⟨x,rfl,ho4,hb4⟩;have HF:=hd (rdA_mk HRR.o HL3.o.bel ho4 hb4);obtain⟨A4,c4,rfl⟩:=own_shape ho4;clear ho4 hb4 HMK;go_wp2;go_ret2;exact HF.o
    ·go_upto_if 27 with fail
     go_cut [4,7] from 27 to 44 (fun tk o wx=>∃(k f m cc:Nat) (P:List Lb),tk=.slice (some ⟨g,f,none⟩) m cc∧m≤cc∧Hd (f=k*3∧k+m=T.length)∧Hd (P.length≤k)∧Hd (∀y∈P,y.1.size≤33554432∧y.2.size≤33554432)∧Hd (SC.rd T=(SC.bracedA T k).map (P++·))∧Hd (LR w wx o P)∧Hd (wx.ownsRow w.heap.size 53 3 (.slice (some ⟨g,0,none⟩) T.length c) T.length (SC.cellsT T)))
     case first=>
      cases hm:SC.kMet t0 with
      |true=>
       have ht:T0≠[]:=fun e=>hone ⟨hm,e⟩
       have hT2:T.length≠1:=fun e=>ht (HT0.o.2 e)
       have HRD:=hd (HM1.o hm ht);have HL0:=hd (LR.nil HBW.o);obtain⟨d0,d1,d2⟩:=tok_cells HT2.o 0 h0T;simp only[Nat.zero_mul,Nat.zero_add,hT0e]at d0 d1 d2;have hnI:(((T.length-1:Nat):Int)==0)=false:=(by rw[bf];omega);have hnJ:((T.length:Int)-1==0)=false:=(by rw[bf];omega);have ht1:=ht0;clear ht hone HM1 HM0 HN HT0;go_wp2_with (at_builtin;refine wp_lr_lit rfl _ _ rfl w wc _ [] SC.nmB t0.text HL0.o (by simp) _ rfl rfl rfl ?_)
       intro v3 w3 h3 hg3;have HL3:=hd h3;have HT3:=hd (HT2.o.kept hg3 (own_type_ne HT2.o HL0.o.own (by decide)));clear h3 hg3 d0 d1 d2;have h1I:(1:Int)≤(T.length:Int):=(by omega);have hc1:¬ c=1:=(by omega);go_wp2;go_meet;exact⟨1,3,T.length-1,c-1,_,rfl,by omega,hd ⟨rfl,by omega⟩,hd (by simp),hd (by intro y hy;simp at hy;subst hy;have:=HS.o;exact⟨by simp only;decide,by simp only;omega⟩),HRD,HL3,HT3⟩
      |false=>
       have HRD:=hd (HN.o hm);have HL0:=hd (LR.nil HBW.o);clear hone HM1 HM0 HN HT0;go_wp2;go_meet;exact⟨0,0,T.length,c,_,rfl,hnc,hd ⟨rfl,by omega⟩,hd (by simp),hd (by intro y hy;cases hy),HRD,HL0,HT2⟩
     case rest=>
      obtain⟨k,f,m,cc,P,rfl,hmc,HKM,HPK,HPS,HRD,HLR,HTT⟩:=hcut;clear HT2 HBW hzc hgc hone HM1 HM0 HN HT0;obtain⟨hfk,hkm⟩:=HKM.o;by_cases hm2:m<2
      ·have hm2I:(m:Int)<2:=by omega
       have HR0:Hd (L.rdR s=([],160)):=hd (by rw[HRR.o,HRD.o,SC.braced_short (by omega)];rfl);have HBF:=hd HLR.o.bel;clear hfk hkm;go_wp2;go_ret2;exact L.rdA_nil HR0.o HBF.o
      ·obtain⟨j,hj⟩:∃j,m=j+1:=⟨m-1,by omega⟩
       have hwj:IntKind.i64.wrap ((m:Int)-1)=(j:Int):=(by rw[IntKind.wrap_i64];omega);have hjm:j<m:=(by omega);have hjI:(j:Int)<(m:Int):=(by omega);have hkT:k<T.length:=(by omega);have hlT:T.length-1<T.length:=(by omega);have HBE:=hd (SC.braced_eq (T:=T) (k:=k) (by omega));have CK:=hd (fun (W:World) (h:W.ownsRow w.heap.size 53 3 (.slice (some ⟨g,0,none⟩) T.length c) T.length (SC.cellsT T))=>by
        have h1:=tok_cells h k hkT;have h2:=tok_cells h (T.length-1) hlT;rw[←hfk]at h1;rw[show (T.length-1)*3=f+j*3 by omega]at h2;exact And.intro h1 h2)
       have HX:=hd (HSM.o _ (List.getElem_mem hkT)).1;have HY:=hd (HSM.o _ (List.getElem_mem hlT)).1;generalize T[k]'hkT=ta at *;generalize T[T.length-1]'hlT=tz at *;have CA:=hd (fun W:World=>lisop_any ta 123 W);have CZ:=hd (fun W:World=>lisop_any tz 125 W);have hj2:¬ (m:Int)<2:=(by omega);have HKM2:=hd (And.intro hj (And.intro hfk hkm));clear hfk hkm HX HY hj;obtain⟨⟨d0,d1,d2⟩,e0,e1,e2⟩:=CK.o _ HTT.o;cases hA:SC.isOp ta 123 with
       |false=>
        rw[hA]at CA;have HR0:Hd (L.rdR s=([],160)):=hd (by rw[HRR.o,HRD.o,HBE.o,hA,if_neg (by simp)];rfl);have HBF:=hd HLR.o.bel;clear hA;go_wp2_with fail
        refine(CA.o _).mono ?_;rintro e4 w4 ⟨rfl,hb4⟩;have HBG:=hd (HBF.o.trans (hb4.mono HBF.o.size));clear hb4;go_wp2;go_ret2;exact L.rdA_nil HR0.o HBG.o
       |true=>
        rw[hA]at CA;go_wp2_with fail
        refine(CA.o _).mono ?_;rintro e4 w4 ⟨rfl,hb4⟩;have HL4:=hd (HLR.o.below hb4);have HT4:=hd (own_below HTT.o hb4);clear hb4 HLR HTT d0 d1 d2 e0 e1 e2 CA;obtain⟨⟨d0,d1,d2⟩,e0,e1,e2⟩:=CK.o _ HT4.o;cases hZ:SC.isOp tz 125 with
        |false=>
         rw[hZ]at CZ;have HR0:Hd (L.rdR s=([],160)):=hd (by rw[HRR.o,HRD.o,HBE.o,hZ,if_neg (by simp)];rfl);have HBF:=hd HL4.o.bel;clear hZ hA;go_wp2_with fail
         refine(CZ.o _).mono ?_;rintro e5 w5 ⟨rfl,hb5⟩;have HBG:=hd (HBF.o.trans (hb5.mono HBF.o.size));clear hb5;go_wp2;go_ret2;exact L.rdA_nil HR0.o HBG.o
        |true=>
         rw[hZ]at CZ;have HRE:Hd (SC.rd T=(SC.rdB (SC.seg T (k+1) (T.length-1))).map (P++·)):=hd (by rw[HRD.o,HBE.o,hA,hZ];rfl);clear hZ hA HBE HRD;go_wp2_with fail
         refine(CZ.o _).mono ?_;rintro e5 w5 ⟨rfl,hb5⟩;have HL5:=hd (HL4.o.below hb5);have HT5:=hd (own_below HT4.o hb5);clear hb5 HL4 HT4 d0 d1 d2 e0 e1 e2 CZ CK;have hc1:¬ cc=1:=(by omega);have hj1:1≤j:=(by have:=HKM2.o;omega);have hj1I:(1:Int)≤(j:Int):=(by omega);have hjc:j≤cc:=(by omega);have hjcI:(j:Int)≤(cc:Int):=(by omega);have HKE:Hd ((0<j-1→f+3=(k+1)*3)∧(k+1)+(j-1)=T.length-1):=hd (by have:=HKM2.o;constructor<;>omega);have HPK2:Hd (P.length≤k+1):=hd (by have:=HPK.o;omega);go_wp2;have HJC:=hd (show j-1≤cc-1 by omega);clear hj1 hj1I hjc hjcI hwj hjm hjI hj2 hm2 HKM2 hc1
         generalize hE:T.length-1=E at *;have hET:E<T.length:=(by omega);go_loopw [4,7] (fun tk o wr=>∃(k f m cc:Nat) (P:List Lb),tk=.slice (some ⟨g,f,none⟩) m cc∧m≤cc∧Hd ((0<m→f=k*3)∧k+m=E)∧Hd (P.length≤k)∧Hd (∀y∈P,y.1.size≤33554432∧y.2.size≤33554432)∧Hd (SC.rd T=(SC.rdB (SC.seg T k E)).map (P++·))∧Hd (LR w wr o P)∧Hd (wr.ownsRow w.heap.size 53 3 (.slice (some ⟨g,0,none⟩) T.length c) T.length (SC.cellsT T))) (fun tk _ _=>slen tk)
         case atStart=>exact⟨k+1,f+3,j-1,cc-1,P,rfl,HJC.o,HKE,HPK2,HPS,HRE,HL5,HT5⟩
         case round=>
          clear HKE HPK HPK2 HPS HRE HL5 HT5 hmc HKM HJC;obtain⟨k,f,m,cc,P,rfl,hmc,HKM,HPK,HPS,HRD,HLR,HTT⟩:=hrel;have hkm:=HKM.o.2;obtain⟨A7,c7,rfl⟩:=own_shape HLR.o.own;by_cases hm0:m=0
          ·have HRP:Hd (L.rdR s=L.rdAns (some P)):=hd (by rw[HRR.o,HRD.o,SC.seg_end (by omega)];simp[SC.rdB])
           have HMK:=hd (make_any A7 P.length c7 P wr (IsL.own HLR.o.own) (by have:=HPK.o;omega) (fun y hy=>by have:=HPS.o y hy;omega));have HLB:=hd HLR.o.bel;subst hm0;clear hkm;go_wp2_with fail
           refine HMK.o.mono ?_;rintro e4 w4 ⟨x,rfl,ho4,hb4⟩;have HF:=hd (rdA_mk HRP.o HLB.o ho4 hb4);obtain⟨A4,c4,rfl⟩:=own_shape ho4;clear ho4 hb4 HMK;go_wp2;go_ret2;exact HF.o
          ·have hmpI:(0:Int)<(m:Int):=by omega
           by_cases hm3:m<3
           ·have hm3I:(m:Int)<3:=by omega
            have HR0:Hd (L.rdR s=([],160)):=hd (by
             rw[HRR.o,HRD.o,SC.rdB_short]
             ·rfl
             ·intro e
              have:=congrArg List.length e;rw[SC.seg_len (by omega),List.length_nil]at this;omega
             ·rw[SC.seg_len (by omega)];omega)
            have HBF:=hd HLR.o.bel;clear hkm hm0 hm3;go_wp2;go_ret2;exact L.rdA_nil HR0.o HBF.o
           ·have hm3I:¬ (m:Int)<3:=by omega
            have hm0I:(0:Int)<(m:Int):=(by omega);have hm1I:(1:Int)<(m:Int):=(by omega);have hm2I:(2:Int)<(m:Int):=(by omega);have hm0N:0<m:=(by omega);have hm1N:1<m:=(by omega);have hm2N:2<m:=(by omega);have hk0:k<T.length:=(by omega);have hk1:k+1<T.length:=(by omega);have hk2:k+2<T.length:=(by omega);have HSG:Hd (SC.seg T k E=(T[k]'hk0)::(T[k+1]'hk1)::(T[k+2]'hk2)::SC.seg T (k+3) E):=hd (by
             rw[SC.seg_cons (by omega) (by omega),SC.seg_cons (by omega) (by omega),SC.seg_cons (by omega) (by omega)])
            have CK:=hd (fun (W:World) (h:W.ownsRow w.heap.size 53 3 (.slice (some ⟨g,0,none⟩) T.length c) T.length (SC.cellsT T))=>by
             have h1:=tok_cells h k hk0;have h2:=tok_cells h (k+1) hk1;have h3:=tok_cells h (k+2) hk2;have hf:=HKM.o.1 hm0N;rw[←hf]at h1;rw[show (k+1)*3=f+3 by omega]at h2;rw[show (k+2)*3=f+6 by omega]at h3;exact And.intro h1 (And.intro h2 h3))
            have HX:=hd (HSM.o _ (List.getElem_mem hk0)).1;have HZ:=hd (HSM.o _ (List.getElem_mem hk2)).1;generalize T[k]'hk0=ta at *;generalize T[k+1]'hk1=tb at *;generalize T[k+2]'hk2=tc at *;have CB:=hd (fun W:World=>lisop_any tb 61 W);clear hkm hm0 hm3 hk0 hk1 hk2;obtain⟨⟨d0,d1,d2⟩,⟨e0,e1,e2⟩,f0,f1,f2⟩:=CK.o _ HTT.o;by_cases hA:ta.kind=1
            ·have hAI:((ta.kind:Int)!=1)=false:=by rw[bne_eq_false_iff_eq];omega
             cases hB:SC.isOp tb 61 with
             |false=>
              rw[hB]at CB;have HR0:Hd (L.rdR s=([],160)):=hd (by rw[HRR.o,HRD.o,HSG.o,SC.rdB_no (by unfold SC.tri;rw[hB];simp)];rfl);have HBF:=hd HLR.o.bel;clear hA hB;go_wp2_with fail
              refine(CB.o _).mono ?_;rintro e4 w4 ⟨rfl,hb4⟩;have HBG:=hd (HBF.o.trans (hb4.mono HBF.o.size));clear hb4;go_wp2;go_ret2;exact L.rdA_nil HR0.o HBG.o
             |true=>
              rw[hB]at CB;go_wp2_with fail
              refine(CB.o _).mono ?_;rintro e4 w4 ⟨rfl,hb4⟩;have HL4:=hd (HLR.o.below hb4);have HT4:=hd (own_below HTT.o hb4);clear hb4 HLR HTT d0 d1 d2 e0 e1 e2 f0 f1 f2 CB;obtain⟨⟨d0,d1,d2⟩,⟨e0,e1,e2⟩,f0,f1,f2⟩:=CK.o _ HT4.o;by_cases hC:tc.kind=5
              ·have hCI:((tc.kind:Int)!=5)=false:=by rw[bne_eq_false_iff_eq];omega
               have HTRI:Hd (SC.tri ta tb tc=true):=hd (by unfold SC.tri;rw[hB];simp[hA,hC]);clear hA hB hC;obtain⟨uq,ue,HUE⟩:∃uq ue,Hd (U.unquote tc.text=(uq,ue)):=⟨_,_,hd rfl⟩
               have CU:=hd (fun W:World=>by have h:=unquote_any tc.text W (by have:=HS.o;have:=HZ.o;omega);rw[HUE.o]at h;unfold strR at h;exact h);simp only at CU;have HUQ:Hd (SC.uq tc=⟨uq.toArray⟩):=hd (by unfold SC.uq;rw[HUE.o]);have HUZ:Hd ((⟨uq.toArray⟩:ByteArray).size≤33554432):=hd (by rw[←HUQ.o];have:=SC.uq_size tc;have:=HS.o;have:=HZ.o;omega);generalize (⟨uq.toArray⟩:ByteArray)=ux at *;go_wp2_with fail
               refine(CU.o _).mono ?_;rintro e5 w5 ⟨rfl,hb5⟩;have HL5:=hd (HL4.o.below hb5);have HT5:=hd (own_below HT4.o hb5);clear hb5 HL4 HT4 d0 d1 d2 e0 e1 e2 f0 f1 f2 CU HUE;obtain⟨⟨d0,d1,d2⟩,⟨e0,e1,e2⟩,f0,f1,f2⟩:=CK.o _ HT5.o;go_wp2_with (at_builtin;refine wp_lr_lit rfl _ _ rfl w w5 _ P ta.text ux HL5.o (by have:=HPK.o;have:=HKM.o.2;omega) _ rfl rfl rfl ?_)
               intro v6 w6 h6 hg6;have HL6:=hd h6;have HT6:=hd (HT5.o.kept hg6 (own_type_ne HT5.o HL5.o.own (by decide)));have HPS6:Hd (∀y∈P++[(ta.text,ux)],y.1.size≤33554432∧y.2.size≤33554432):=hd (by
                intro y hy;rcases List.mem_append.1 hy with h|h
                ·exact HPS.o y h
                ·rw[List.mem_singleton]at h;subst h;have:=HS.o;have:=HX.o;exact⟨by simp only;omega,HUZ.o⟩)
               have HPK6:Hd ((P++[(ta.text,ux)]).length≤k+1):=hd (by rw[List.length_append,List.length_singleton];have:=HPK.o;omega);clear h6 hg6 HL5 HT5 d0 d1 d2 e0 e1 e2 f0 f1 f2 CK;by_cases hm4:m=3
               ·have HRN:Hd (SC.rd T=(SC.rdB (SC.seg T (k+3) E)).map ((P++[(ta.text,ux)])++·)):=hd (by
                 have hs:=SC.seg_end (T:=T) (k:=k+3) (e:=E) (by have:=HKM.o.2;omega);rw[HRD.o,HSG.o,hs,SC.rdB_end HTRI.o,HUQ.o];simp[SC.rdB])
                subst hm4;clear hm3I hm0I hm1I hm2I hm0N hm1N hm2N hmpI;by_cases hcc:cc=3
                ·subst hcc
                 go_wp2;go_roundw
                 case rel=>exact⟨k+3,f,0,0,P++[(ta.text,ux)],rfl,Nat.zero_le _,hd ⟨fun h=>absurd h (by decide),by have:=HKM.o.2;omega⟩,hd (by have:=HPK6.o;omega),HPS6,HRN,HL6,HT6⟩
                 case measure=>simp[slen]
                ·have hcp:(0:Int)<(cc:Int)-3:=by omega
                 go_wp2;go_roundw
                 case rel=>exact⟨k+3,f+9,0,cc-3,P++[(ta.text,ux)],rfl,Nat.zero_le _,hd ⟨fun h=>absurd h (by decide),by have:=HKM.o.2;omega⟩,hd (by have:=HPK6.o;omega),HPS6,HRN,HL6,HT6⟩
                 case measure=>simp[slen]
               ·have hk3:k+3<T.length:=by have:=HKM.o.2;omega
                have HSG3:Hd (SC.seg T (k+3) E=(T[k+3]'hk3)::SC.seg T (k+4) E):=hd (SC.seg_cons (by have:=HKM.o.2;omega) (by omega));have CD:=hd (by
                 have h1:=tok_cells HT6.o (k+3) hk3;have hf:=HKM.o.1 hm0N;rw[show (k+3)*3=f+9 by omega]at h1;exact h1)
                generalize T[k+3]'hk3=td at *;have CQ:=hd (fun W:World=>lisop_any td 44 W);obtain⟨g0,g1,g2⟩:=CD.o;have hcc:¬ cc=3:=(by omega);have hm4N:3<m:=(by omega);have hm4I:(3:Int)≤(m:Int):=(by omega);have hm4J:(0:Int)<(m:Int)-3:=(by omega);have hm4K:(0:Int)<((m-3:Nat):Int):=(by omega);have hm4P:0<m-3:=(by omega);cases hD:SC.isOp td 44 with
                |false=>
                 rw[hD]at CQ;have HR0:Hd (L.rdR s=([],160)):=hd (by rw[HRR.o,HRD.o,HSG.o,HSG3.o,SC.rdB_sep HTRI.o hD];rfl);have HBF:=hd HL6.o.bel;clear hD hm4 hk3;go_wp2_with fail
                 refine(CQ.o _).mono ?_;rintro e7 w7 ⟨rfl,hb7⟩;have HBG:=hd (HBF.o.trans (hb7.mono HBF.o.size));clear hb7;go_wp2;go_ret2;exact L.rdA_nil HR0.o HBG.o
                |true=>
                 rw[hD]at CQ;have HRN:Hd (SC.rd T=(SC.rdB (SC.seg T (k+4) E)).map ((P++[(ta.text,ux)])++·)):=hd (by
                  rw[HRD.o,HSG.o,HSG3.o,SC.rdB_go HTRI.o hD,HUQ.o];cases SC.rdB (SC.seg T (k+4) E)<;>simp)
                 clear hD hm4 hk3;go_wp2_with fail
                 refine(CQ.o _).mono ?_;rintro e7 w7 ⟨rfl,hb7⟩;have HL7:=hd (HL6.o.below hb7);have HT7:=hd (own_below HT6.o hb7);clear hb7 HL6 HT6 g0 g1 g2 CQ CD;by_cases hc4:cc-3=1
                 ·go_wp2
                  go_roundw
                  case rel=>exact⟨k+4,f+9,m-3-1,_,P++[(ta.text,ux)],rfl,by omega,hd ⟨fun h=>absurd h (by omega),by have:=HKM.o.2;omega⟩,hd (by have:=HPK6.o;omega),HPS6,HRN,HL7,HT7⟩
                  case measure=>simp[slen];omega
                 ·go_wp2
                  go_roundw
                  case rel=>exact⟨k+4,f+9+3,m-3-1,cc-3-1,P++[(ta.text,ux)],rfl,by omega,hd ⟨fun h=>by have:=HKM.o.1 hm0N;omega,by have:=HKM.o.2;omega⟩,hd (by have:=HPK6.o;omega),HPS6,HRN,HL7,HT7⟩
                  case measure=>simp[slen];omega
              ·have hCI:((tc.kind:Int)!=5)=true:=by rw[bne_iff_ne];omega
               have HR0:Hd (L.rdR s=([],160)):=hd (by rw[HRR.o,HRD.o,HSG.o,SC.rdB_no (by unfold SC.tri;simp[hC])];rfl);have HBF:=hd HL4.o.bel;clear hA hC hB;go_wp2;go_ret2;exact L.rdA_nil HR0.o HBF.o
            ·have hAI:((ta.kind:Int)!=1)=true:=by rw[bne_iff_ne];omega
             have HR0:Hd (L.rdR s=([],160)):=hd (by rw[HRR.o,HRD.o,HSG.o,SC.rdB_no (by unfold SC.tri;simp[hA])];rfl);have HBF:=hd HLR.o.bel;clear hA;go_wp2;go_ret2;exact L.rdA_nil HR0.o HBF.o
end Go.Proofs.YtieknenhfeejiaaGreatDoor
