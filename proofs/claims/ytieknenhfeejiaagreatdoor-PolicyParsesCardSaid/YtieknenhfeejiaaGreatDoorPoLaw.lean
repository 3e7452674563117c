/- What a policy's text is read as. No function of the program in sight. Rows of .. -/
import Derived.Test.YtieknenhfeejiaaGreatDoorRlScan
set_option maxRecDepth 100000
set_option maxHeartbeats 8000000
set_option linter.unusedVariables false
set_option linter.unusedSimpArgs false
namespace Go.Proofs.YtieknenhfeejiaaGreatDoor
theorem own_kept {w w':World}{B:Nat}{e:TypeId}{size:Nat}{x:Value}{m:Nat}{xs:List Value}{row:Option Nat}(ho:w.ownsRow B e size x m xs)(hg:w.grownBy w' row)(hne:x.ownBlock=none∨x.ownBlock≠row):w'.ownsRow B e size x m xs:=ho.kept hg hne
open _root_.Go.Proofs.Tryz
namespace PO
abbrev Tk:=SC.Tk
structure Mt where
 name:ByteArray
 op:Nat
 value:ByteArray
def opL (l:List UInt8):Nat:=if l=[61] then 1 else if l=[33,61] then 2 else if l=[61,126] then 3 else if l=[33,126] then 4 else 0
def opN (t:ByteArray):Nat:=opL t.toList
def andS (s:ByteArray):Bool:=(SC.lowS s).toList==[97,110,100]
def nameT (t:Tk):Bool:=decide (t.kind=1) ||(decide (t.kind=3) && L.lab t.text)
def andT (t:Tk):Bool:=decide (t.kind=1) && andS t.text
def starT (t:Tk):Bool:=decide (t.kind=6) && (t.text.toList==[42])
def fits (t:Tk)(i:Nat):Bool:=
 if i%4=0 then nameT t else if i%4=1 then decide (t.kind=6) && decide (opN t.text≠0) else if i%4=2 then decide (t.kind=5) else andT t
def bad:List Tk→Nat→Option Tk
 |[],_=>none
 |t::r,i=>if fits t i then bad r (i+1) else some t
def rules:List Tk→List Mt
 |a::b::c::_::r=>⟨a.text,opN b.text,SC.uq c⟩::rules r
 |[a,b,c]=>[⟨a.text,opN b.text,SC.uq c⟩]
 |_=>[]
structure Ans where
 l:List Mt
 pos:Nat
 err:Int
def starH:List Tk→Bool
 |[]=>false
 |t::_=>starT t
def posAt (T:List Tk)(i:Nat):Nat:=(T[i]?.map (·.pos)).getD 0
def read (n:Nat)(T:List Tk):Ans:=
 if starH T then(if 1<T.length then ⟨[],posAt T 1,250⟩ else ⟨[],0,0⟩)
 else match bad T 0 with
  |some t=>⟨[],t.pos,250⟩
  |none=>if T.length%4≠3 then ⟨[],n,250⟩ else if 64<T.length then ⟨[],posAt T 64,251⟩ else ⟨rules T,0,0⟩
noncomputable def parse (s:ByteArray):Ans:=
 if 1024<s.size then ⟨[],0,1⟩ else match SC.scan s with
  | .bad p e=>⟨[],p,e⟩
  | .ok T=>read s.size T
theorem bad_step {T:List Tk}{k:Nat}(h:k<T.length):bad (T.drop k) k=if fits (T[k]'h) k then bad (T.drop (k+1)) (k+1) else some (T[k]'h):=by
 rw[List.drop_eq_getElem_cons h];rfl
theorem bad_end {T:List Tk}{k:Nat}(h:T.length≤k):bad (T.drop k) k=none:=by
 rw[List.drop_eq_nil_of_le h];rfl
theorem rules_step {T:List Tk}{k:Nat}(h:k+2<T.length):rules (T.drop k)=⟨(T[k]'(by omega)).text,opN (T[k+1]'(by omega)).text,SC.uq (T[k+2]'h)⟩::rules (T.drop (k+4)):=by
 rw[List.drop_eq_getElem_cons (by omega:k<T.length),List.drop_eq_getElem_cons (by omega:k+1<T.length),List.drop_eq_getElem_cons h];by_cases h3:k+3<T.length
 ·rw[List.drop_eq_getElem_cons h3];rfl
 ·rw[List.drop_eq_nil_of_le (by omega:T.length≤k+2+1),List.drop_eq_nil_of_le (by omega:T.length≤k+4)];rfl
theorem rules_end {T:List Tk}{k:Nat}(h:T.length≤k):rules (T.drop k)=[]:=by
 rw[List.drop_eq_nil_of_le h];rfl
theorem low_size (s:ByteArray):(SC.lowS s).toList.length=s.size:=by
 unfold SC.lowS;rw[ByteArray.toList_eq,List.length_map,←Lib.size_eq]
theorem andS_long {s:ByteArray}(h:3<s.size):andS s=false:=by
 unfold andS;rw[bf];intro e;have:=congrArg List.length e;rw[low_size]at this;simp at this;omega
end PO
end Go.Proofs.YtieknenhfeejiaaGreatDoor
namespace Go.Proofs.YtieknenhfeejiaaGreatDoor
open _root_.Go.Proofs.Tryz
open Go.RowKit
namespace SC
theorem cellsT_at:∀(T:List Tk) (i:Nat) (hi:i<T.length),(cellsT T)[i*3]?=some (.int .i64 ((T[i]'hi).kind:Int))∧(cellsT T)[i*3+1]?=some (.string (T[i]'hi).text)∧(cellsT T)[i*3+2]?=some (.int .i64 ((T[i]'hi).pos:Int))
 |t::T,0,_=>⟨rfl,rfl,rfl⟩
 |t::T,i+1,hi=>by
  have h:=cellsT_at T i (by simpa using hi);have e:∀j,(cellsT (t::T))[(i+1)*3+j]?=(cellsT T)[i*3+j]?:=fun j=>by
   rw[show (i+1)*3+j=i*3+j+3 by omega];rfl
  have e0:=e 0;rw[Nat.add_zero,Nat.add_zero]at e0;rw[e0,e 1,e 2];exact h
theorem tok_at {w:World}{A:Option Addr}{n c:Nat}{T:List Tk}(h:IsL 3 w (.slice A n c) n (cellsT T))(i:Nat)(hi:i<T.length) :
  ∃b off,A=some ⟨b,off,none⟩∧b<w.heap.size∧w.cell? ⟨b,off+i*3,none⟩=some (.int .i64 ((T[i]'hi).kind:Int))∧w.cell? ⟨b,off+i*3+1,none⟩=some (.string (T[i]'hi).text)∧w.cell? ⟨b,off+i*3+2,none⟩=some (.int .i64 ((T[i]'hi).pos:Int)):=by
 obtain⟨hl,A',c',e,r⟩:=h;simp only[Value.slice.injEq,true_and]at e;obtain⟨rfl,_⟩:=e;have hz:=cellsT_len T;obtain⟨b,off,rfl,hb,hc⟩:=r.head (by omega);obtain⟨h0,h1,h2⟩:=cellsT_at T i hi;refine⟨b,off,rfl,hb,?_,?_,?_⟩
 ·rw[hc (i*3) (by omega)]
  rw[List.getElem?_eq_getElem (by omega)]at h0;exact h0
 ·rw[Nat.add_assoc,hc (i*3+1) (by omega)]
  rw[List.getElem?_eq_getElem (by omega)]at h1;exact h1
 ·rw[Nat.add_assoc,hc (i*3+2) (by omega)]
  rw[List.getElem?_eq_getElem (by omega)]at h2;exact h2
theorem go_small (s:ByteArray):∀m p br sq l,s.size-p=m→go s p br sq=.ok l→(∀t∈l,t.text.size≤s.size∧t.pos≤s.size)∧l.length≤s.size-p:=by
 intro m;induction m using Nat.strongRecOn with
 |_ m ih=>
  intro p br sq l hm h;rw[go]at h;split at h
  ·rename_i hlt
   cases ht:tok s (p+bl false (s.data.toList.drop p)) br sq with
   |bad e=>rw[ht]at h;exact absurd h (by simp)
   |ok k n b q=>
    rw[ht]at h;simp only at h;obtain⟨hn,hle⟩:=tok_n hlt ht;rw[dif_pos hn]at h;cases hg:go s (p+bl false (s.data.toList.drop p)+n) b q with
    |bad x e=>rw[hg]at h;exact absurd h (by simp[Out.pre])
    |ok l2=>
     rw[hg]at h;simp only[Out.pre,Out.ok.injEq]at h;obtain⟨h1,h2⟩:=ih _ (by omega) _ b q l2 rfl hg;subst h;refine⟨fun t htm=>?_,by simp;omega⟩;rcases List.mem_append.1 htm with h3|h3
     ·rw[List.mem_singleton]at h3
      subst h3;exact⟨by simp only[ByteArray.size_extract];omega,by simp only;omega⟩
     ·exact h1 t h3
  ·simp only[Out.ok.injEq]at h
   subst h;exact⟨fun t ht=>(by cases ht),Nat.zero_le _⟩
theorem go_err (s:ByteArray):∀m p br sq x e,s.size-p=m→go s p br sq=.bad x e→(e=110∨e=111∨e=112)∧x≤s.size:=by
 intro m;induction m using Nat.strongRecOn with
 |_ m ih=>
  intro p br sq x e hm h;rw[go]at h;split at h
  ·rename_i hlt
   cases ht:tok s (p+bl false (s.data.toList.drop p)) br sq with
   |bad er=>
    rw[ht]at h;simp only[Out.bad.injEq]at h;obtain⟨rfl,rfl⟩:=h;exact⟨tok_bad ht,by omega⟩
   |ok k n b q=>
    rw[ht]at h;simp only at h;obtain⟨hn,hle⟩:=tok_n hlt ht;rw[dif_pos hn]at h;cases hg:go s (p+bl false (s.data.toList.drop p)+n) b q with
    |bad y f=>
     rw[hg]at h;simp only[Out.pre,Out.bad.injEq]at h;obtain⟨rfl,rfl⟩:=h;exact ih _ (by omega) _ b q _ _ rfl hg
    |ok l2=>rw[hg]at h;exact absurd h (by simp[Out.pre])
  ·exact absurd h (by simp)
end SC
namespace PO
def cellsM (l:List Mt):List Value:=l.flatMap fun x=>[.string x.name,.int .i64 (x.op:Int),.string x.value]
theorem cellsM_app (a b:List Mt):cellsM (a++b)=cellsM a++cellsM b:=List.flatMap_append
theorem cellsM_len (l:List Mt):(cellsM l).length=l.length*3:=by
 induction l with
 |nil=>rfl
 |cons t T ih=>show (_::_::_::cellsM T).length=_;simp only[List.length_cons,ih];omega
def ParseA (w:World)(A:Ans)(e:Ending)(w':World):Prop:=∃v,e=.returned (.tuple #[v,.int .i64 (A.pos:Int),.int .i64 A.err])∧w'.ownsRow w.heap.size 47 3 v A.l.length (cellsM A.l)∧Below w.heap.size w w'
theorem parse_nil {w w':World}{A:Ans}{p:Nat}{e:Int}(h:A=⟨[],p,e⟩)(hb:Below w.heap.size w w'):ParseA w A (.returned (.tuple #[.slice none 0 0,.int .i64 (p:Int),.int .i64 e])) w':=by
 subst h;exact⟨_,rfl,⟨rfl,.inl ⟨rfl,rfl⟩⟩,hb⟩
theorem parse_bad {s:ByteArray}{p:Nat}{e:Int}(h:s.size≤1024)(h2:SC.go s 0 false false=.bad p e):parse s=⟨[],p,e⟩:=by
 unfold parse SC.scan;rw[if_neg (by omega),if_neg (by omega),h2]
theorem parse_ok {s:ByteArray}{T:List Tk}(h:s.size≤1024)(h2:SC.go s 0 false false=.ok T):parse s=read s.size T:=by
 unfold parse SC.scan;rw[if_neg (by omega),if_neg (by omega),h2]
theorem read_star2 {n:Nat}{T:List Tk}(h:starH T=true)(h2:1<T.length):read n T=⟨[],posAt T 1,250⟩:=by
 unfold read;rw[if_pos h,if_pos h2]
theorem read_star1 {n:Nat}{T:List Tk}(h:starH T=true)(h2:¬ 1<T.length):read n T=⟨[],0,0⟩:=by
 unfold read;rw[if_pos h,if_neg h2]
theorem read_bad {n:Nat}{T:List Tk}{t:Tk}(h:starH T=false)(h2:bad T 0=some t):read n T=⟨[],t.pos,250⟩:=by
 unfold read;rw[if_neg (by rw[h];decide),h2]
theorem read_len {n:Nat}{T:List Tk}(h:starH T=false)(h2:bad T 0=none)(h3:T.length%4≠3):read n T=⟨[],n,250⟩:=by
 unfold read;rw[if_neg (by rw[h];decide),h2];simp only;rw[if_pos h3]
theorem read_many {n:Nat}{T:List Tk}(h:starH T=false)(h2:bad T 0=none)(h3:T.length%4=3)(h4:64<T.length):read n T=⟨[],posAt T 64,251⟩:=by
 unfold read;rw[if_neg (by rw[h];decide),h2];simp only;rw[if_neg (by omega),if_pos h4]
theorem read_ok {n:Nat}{T:List Tk}(h:starH T=false)(h2:bad T 0=none)(h3:T.length%4=3)(h4:¬ 64<T.length):read n T=⟨rules T,0,0⟩:=by
 unfold read;rw[if_neg (by rw[h];decide),h2];simp only;rw[if_neg (by omega),if_neg h4]
theorem posAt_eq {T:List Tk}{i:Nat}(h:i<T.length):posAt T i=(T[i]'h).pos:=by
 unfold posAt;rw[List.getElem?_eq_getElem h];rfl
end PO
theorem info_matcher:(prog.info? 47).map (fun i=>(i.zero,i.size,i.bytes))=some (some (.agg #[.string ⟨#[]⟩,.int .i64 0,.string ⟨#[]⟩]),3,40):=by kernel_rfl
def PO.WordA (s:ByteArray)(e:Ending):Prop:=∃(r:ByteArray) (ok:Bool),e=.returned (.tuple #[.string r,.bool ok])∧(ok && (r.toList==[97,110,100]))=PO.andS s
theorem lexword_any (s:ByteArray)(w:World)(hs:s.size≤1099511627776) :
  Calls prog 86 #[.string s] w fun e w'=>PO.WordA s e∧Below w.heap.size w w':=by
 by_cases h12:12<s.size
 ·have hI:(12:Int)<(s.size:Int):=by omega
  have P:=hd (PO.andS_long (s:=s) (by omega));go_enter func86,ntmps86;go_wp2;go_ret2;exact⟨⟨_,_,rfl,by rw[P.o];rfl⟩,Below.refl _ _⟩
 ·have hI:¬ (12:Int)<(s.size:Int):=by omega
  have C:=hd (fun W:World=>sclower_any s W (by omega));obtain⟨x,HX⟩:∃x,Hd (SC.lowS s=x):=⟨_,hd rfl⟩
  have HA:Hd (PO.andS s=(x.toList==[97,110,100])):=hd (by unfold PO.andS;rw[HX.o]);rw[HX.o]at C;cases h1:(x.toList==[97,110,100]) with
  |true=>
   go_enter func86,ntmps86;go_wp2_with (go_at_call 115;refine(C.o _).mono ?_;rintro e1 w1 ⟨rfl,hb⟩)
   go_ret2;exact⟨⟨_,_,rfl,by rw[HA.o,h1];rfl⟩,hb⟩
  |false=>
   have H1:=hd h1;go_enter func86,ntmps86;go_wp2_with (go_at_call 115;refine(C.o _).mono ?_;rintro e1 w1 ⟨rfl,hb⟩)
   all_goals
    go_ret2;exact⟨⟨_,_,rfl,by first|(rw[HA.o,H1.o];rfl)|(rw[HA.o];rfl)⟩,hb⟩
theorem rlword_any (s:ByteArray)(w:World)(hs:s.size≤1099511627776) :
  Calls prog 64 #[.string s] w fun e w'=>PO.WordA s e∧Below w.heap.size w w':=by
 by_cases h12:20<s.size
 ·have hI:(20:Int)<(s.size:Int):=by omega
  have P:=hd (PO.andS_long (s:=s) (by omega));go_enter func64,ntmps64;go_wp2;go_ret2;exact⟨⟨_,_,rfl,by rw[P.o];rfl⟩,Below.refl _ _⟩
 ·have hI:¬ (20:Int)<(s.size:Int):=by omega
  have C:=hd (fun W:World=>scsmall_any s W (by omega));obtain⟨x,HX⟩:∃x,Hd (SC.lowS s=x):=⟨_,hd rfl⟩
  have HA:Hd (PO.andS s=(x.toList==[97,110,100])):=hd (by unfold PO.andS;rw[HX.o]);rw[HX.o]at C;cases h1:(x.toList==[97,110,100]) with
  |true=>
   go_enter func64,ntmps64;go_wp2_with (go_at_call 90;refine(C.o _).mono ?_;rintro e1 w1 ⟨rfl,hb⟩)
   go_ret2;exact⟨⟨_,_,rfl,by rw[HA.o,h1];rfl⟩,hb⟩
  |false=>
   have H1:=hd h1;go_enter func64,ntmps64;go_wp2_with (go_at_call 90;refine(C.o _).mono ?_;rintro e1 w1 ⟨rfl,hb⟩)
   all_goals
    go_ret2;exact⟨⟨_,_,rfl,by first|(rw[HA.o,H1.o];rfl)|(rw[HA.o];rfl)⟩,hb⟩
theorem poop_any (s:ByteArray)(w:World) :
  Calls prog 24 #[.string s] w fun e w'=>e=.returned (.int .i64 (PO.opN s:Int))∧w=w':=by
 have HO:Hd (PO.opN s=PO.opL s.toList):=hd rfl;by_cases h1:s.toList=[61]
 ·have P:Hd (PO.opN s=1):=hd (by rw[HO.o,h1];rfl)
  go_enter func24,ntmps24;go_wp2;go_ret;exact⟨by rw[P.o];rfl,rfl⟩
 by_cases h2:s.toList=[33,61]
 ·have P:Hd (PO.opN s=2):=hd (by rw[HO.o,h2];rfl)
  go_enter func24,ntmps24;go_wp2;go_ret;exact⟨by rw[P.o];rfl,rfl⟩
 by_cases h3:s.toList=[61,126]
 ·have P:Hd (PO.opN s=3):=hd (by rw[HO.o,h3];rfl)
  go_enter func24,ntmps24;go_wp2;go_ret;exact⟨by rw[P.o];rfl,rfl⟩
 by_cases h4:s.toList=[33,126]
 ·have P:Hd (PO.opN s=4):=hd (by rw[HO.o,h4];rfl)
  go_enter func24,ntmps24;go_wp2;go_ret;exact⟨by rw[P.o];rfl,rfl⟩
 have P:Hd (PO.opN s=0):=hd (by rw[HO.o];unfold PO.opL;rw[if_neg h1,if_neg h2,if_neg h3,if_neg h4]);have e1:(s.toList==[61])=false:=by(rw[bf];exact h1)
 have e2:(s.toList==[33,61])=false:=by(rw[bf];exact h2)
 have e3:(s.toList==[61,126])=false:=by(rw[bf];exact h3)
 have e4:(s.toList==[33,126])=false:=by(rw[bf];exact h4)
 clear h1 h2 h3 h4;go_enter func24,ntmps24;go_wp2;go_ret;exact⟨by rw[P.o];rfl,rfl⟩
theorem poname_any (t:SC.Tk)(w:World)(hs:t.text.size≤1099511627776) :
  Calls prog 51 #[.agg #[.int .i64 (t.kind:Int),.string t.text,.int .i64 (t.pos:Int)]] w fun e w'=>e=.returned (.bool (PO.nameT t))∧Below w.heap.size w w':=by
 obtain⟨k,x,p⟩:=t;simp only at hs;have C:=hd (fun W:World=>isLabel_any x W (by omega));have HN:Hd (PO.nameT ⟨k,x,p⟩=(decide (k=1) ||(decide (k=3) && L.lab x))):=hd rfl;obtain⟨b,HB⟩:∃b,Hd (L.lab x=b):=⟨_,hd rfl⟩
 rw[HB.o]at C HN;by_cases h1:k=1
 ·have e1:((k:Int)==1)=true:=by rw[h1];rfl
  have P:Hd (PO.nameT ⟨k,x,p⟩=true):=hd (by rw[HN.o,h1];rfl);clear h1;go_enter func51,ntmps51;go_wp2;go_ret;exact⟨by rw[P.o];rfl,(Below.refl _ _).alloc (Nat.le_refl _) _⟩
 ·have e1:((k:Int)==1)=false:=by(rw[bf];omega)
  by_cases h3:k=3
  ·have e3:((k:Int)==3)=true:=by rw[h3];rfl
   have P:Hd (PO.nameT ⟨k,x,p⟩=b):=hd (by rw[HN.o,h3];simp);clear h1 h3;go_enter func51,ntmps51;go_wp2_with (go_at_call 44;refine(C.o _).mono ?_;rintro e1 w1 ⟨rfl,rfl⟩)
   go_ret;exact⟨by rw[P.o];rfl,(Below.refl _ _).alloc (Nat.le_refl _) _⟩
  ·have e3:((k:Int)==3)=false:=by(rw[bf];omega)
   have P:Hd (PO.nameT ⟨k,x,p⟩=false):=hd (by rw[HN.o];simp[h1,h3]);clear h1 h3;go_enter func51,ntmps51;go_wp2;go_ret;exact⟨by rw[P.o];rfl,(Below.refl _ _).alloc (Nat.le_refl _) _⟩
theorem rpop_any (s:ByteArray)(w:World) :
  Calls prog 28 #[.string s] w fun e w'=>e=.returned (.int .i64 (PO.opN s:Int))∧w=w':=by
 have HO:Hd (PO.opN s=PO.opL s.toList):=hd rfl;by_cases h1:s.toList=[61]
 ·have P:Hd (PO.opN s=1):=hd (by rw[HO.o,h1];rfl)
  go_enter func28,ntmps28;go_wp2;go_ret;exact⟨by rw[P.o];rfl,rfl⟩
 by_cases h2:s.toList=[33,61]
 ·have P:Hd (PO.opN s=2):=hd (by rw[HO.o,h2];rfl)
  go_enter func28,ntmps28;go_wp2;go_ret;exact⟨by rw[P.o];rfl,rfl⟩
 by_cases h3:s.toList=[61,126]
 ·have P:Hd (PO.opN s=3):=hd (by rw[HO.o,h3];rfl)
  go_enter func28,ntmps28;go_wp2;go_ret;exact⟨by rw[P.o];rfl,rfl⟩
 by_cases h4:s.toList=[33,126]
 ·have P:Hd (PO.opN s=4):=hd (by rw[HO.o,h4];rfl)
  go_enter func28,ntmps28;go_wp2;go_ret;exact⟨by rw[P.o];rfl,rfl⟩
 have P:Hd (PO.opN s=0):=hd (by rw[HO.o];unfold PO.opL;rw[if_neg h1,if_neg h2,if_neg h3,if_neg h4]);have e1:(s.toList==[61])=false:=by(rw[bf];exact h1)
 have e2:(s.toList==[33,61])=false:=by(rw[bf];exact h2)
 have e3:(s.toList==[61,126])=false:=by(rw[bf];exact h3)
 have e4:(s.toList==[33,126])=false:=by(rw[bf];exact h4)
 clear h1 h2 h3 h4;go_enter func28,ntmps28;go_wp2;go_ret;exact⟨by rw[P.o];rfl,rfl⟩
theorem rpname_any (t:SC.Tk)(w:World)(hs:t.text.size≤1099511627776) :
  Calls prog 63 #[.agg #[.int .i64 (t.kind:Int),.string t.text,.int .i64 (t.pos:Int)]] w fun e w'=>e=.returned (.bool (PO.nameT t))∧Below w.heap.size w w':=by
 obtain⟨k,x,p⟩:=t;simp only at hs;have C:=hd (fun W:World=>refIsLabel_any x W (by omega));have HN:Hd (PO.nameT ⟨k,x,p⟩=(decide (k=1) ||(decide (k=3) && L.lab x))):=hd rfl;obtain⟨b,HB⟩:∃b,Hd (L.lab x=b):=⟨_,hd rfl⟩
 rw[HB.o]at C HN;by_cases h1:k=1
 ·have e1:((k:Int)==1)=true:=by rw[h1];rfl
  have P:Hd (PO.nameT ⟨k,x,p⟩=true):=hd (by rw[HN.o,h1];rfl);clear h1;go_enter func63,ntmps63;go_wp2;go_ret;exact⟨by rw[P.o];rfl,(Below.refl _ _).alloc (Nat.le_refl _) _⟩
 ·have e1:((k:Int)==1)=false:=by(rw[bf];omega)
  by_cases h3:k=3
  ·have e3:((k:Int)==3)=true:=by rw[h3];rfl
   have P:Hd (PO.nameT ⟨k,x,p⟩=b):=hd (by rw[HN.o,h3];simp);clear h1 h3;go_enter func63,ntmps63;go_wp2_with (go_at_call 72;refine(C.o _).mono ?_;rintro e1 w1 ⟨rfl,rfl⟩)
   go_ret;exact⟨by rw[P.o];rfl,(Below.refl _ _).alloc (Nat.le_refl _) _⟩
  ·have e3:((k:Int)==3)=false:=by(rw[bf];omega)
   have P:Hd (PO.nameT ⟨k,x,p⟩=false):=hd (by rw[HN.o];simp[h1,h3]);clear h1 h3;go_enter func63,ntmps63;go_wp2;go_ret;exact⟨by rw[P.o];rfl,(Below.refl _ _).alloc (Nat.le_refl _) _⟩
theorem poand_any (t:SC.Tk)(w:World)(hs:t.text.size≤1099511627776) :
  Calls prog 52 #[.agg #[.int .i64 (t.kind:Int),.string t.text,.int .i64 (t.pos:Int)]] w fun e w'=>e=.returned (.bool (PO.andT t))∧Below w.heap.size w w':=by
 obtain⟨k,x,p⟩:=t;simp only at hs;have C:=hd (fun W:World=>lexword_any x W hs);have HB:=hd (show Below w.heap.size w (w.alloc (.cells #[.int .i64 (k:Int),.string x,.int .i64 (p:Int)] 53)) from (Below.refl _ _).alloc (Nat.le_refl _) _);by_cases h1:k=1
 ·have e1:((k:Int)==1)=true:=by rw[h1];rfl
  have P:Hd (PO.andT ⟨k,x,p⟩=PO.andS x):=hd (by unfold PO.andT;rw[h1];simp);clear h1;go_enter func52,ntmps52;go_wp2_with fail
  refine(C.o _).mono ?_;rintro e1 w1 ⟨⟨r,ok,rfl,hr⟩,hb⟩;have HR:=hd hr;have HB1:=hd (bel HB.o hb);have g0:w1.cell? ⟨w.heap.size,0,none⟩=some (.int .i64 (k:Int)):=(hb.cell (p:=⟨w.heap.size,0,none⟩) (by simp)).trans (by simp);clear hr hb;cases ok with
  |true=>
   go_wp2;go_ret;exact⟨by rw[P.o,←HR.o];rfl,HB1.o⟩
  |false=>
   go_wp2;go_ret;exact⟨by rw[P.o,←HR.o];rfl,HB1.o⟩
 ·have e1:((k:Int)==1)=false:=by(rw[bf];omega)
  have P:Hd (PO.andT ⟨k,x,p⟩=false):=hd (by unfold PO.andT;simp[h1]);clear h1;go_enter func52,ntmps52;go_wp2_with fail
  refine(C.o _).mono ?_;rintro e1 w1 ⟨⟨r,ok,rfl,hr⟩,hb⟩;have HB1:=hd (bel HB.o hb);have g0:w1.cell? ⟨w.heap.size,0,none⟩=some (.int .i64 (k:Int)):=(hb.cell (p:=⟨w.heap.size,0,none⟩) (by simp)).trans (by simp);clear hr hb;go_wp2;go_ret;exact⟨by rw[P.o];rfl,HB1.o⟩
theorem postar_any (t:SC.Tk)(w:World) :
  Calls prog 21 #[.agg #[.int .i64 (t.kind:Int),.string t.text,.int .i64 (t.pos:Int)]] w fun e w'=>e=.returned (.bool (PO.starT t))∧Below w.heap.size w w':=by
 obtain⟨k,x,p⟩:=t;have HB:=hd (show Below w.heap.size w (w.alloc (.cells #[.int .i64 (k:Int),.string x,.int .i64 (p:Int)] 53)) from (Below.refl _ _).alloc (Nat.le_refl _) _);by_cases h1:k=6
 ·have e1:((k:Int)==6)=true:=by rw[h1];rfl
  have P:Hd (PO.starT ⟨k,x,p⟩=(x.toList==[42])):=hd (by unfold PO.starT;rw[h1];simp);clear h1;go_enter func21,ntmps21;go_wp2;go_ret;exact⟨by rw[P.o];rfl,HB.o⟩
 ·have e1:((k:Int)==6)=false:=by(rw[bf];omega)
  have P:Hd (PO.starT ⟨k,x,p⟩=false):=hd (by unfold PO.starT;simp[h1]);clear h1;go_enter func21,ntmps21;go_wp2;go_ret;exact⟨by rw[P.o];rfl,HB.o⟩
theorem pofits_any (t:SC.Tk)(i:Nat)(w:World)(hs:t.text.size≤1099511627776)(hi:i≤1099511627776) :
  Calls prog 22 #[.agg #[.int .i64 (t.kind:Int),.string t.text,.int .i64 (t.pos:Int)],.int .i64 i] w fun e w'=>e=.returned (.bool (PO.fits t i))∧Below w.heap.size w w':=by
 have HF:Hd (PO.fits t i=if i%4=0 then PO.nameT t else if i%4=1 then decide (t.kind=6) && decide (PO.opN t.text≠0) else if i%4=2 then decide (t.kind=5) else PO.andT t):=hd rfl;have CN:=hd (fun W:World=>poname_any t W hs);have CO:=hd (fun W:World=>poop_any t.text W);have CW:=hd (fun W:World=>poand_any t W hs);have hop:PO.opN t.text≤4:=(by unfold PO.opN PO.opL;split;omega;split;omega;split;omega;split<;>omega);obtain⟨o,HO⟩:∃o,Hd (PO.opN t.text=o):=⟨_,hd rfl⟩
 rw[HO.o]at CO HF hop;have HAN:Hd (PO.andT t=(decide (t.kind=1) && PO.andS t.text)):=hd rfl;obtain⟨k,x,p⟩:=t;simp only at hs CN CO CW HF HAN;have HB:=hd (show Below w.heap.size w (w.alloc (.cells #[.int .i64 (k:Int),.string x,.int .i64 (p:Int)] 53)) from (Below.refl _ _).alloc (Nat.le_refl _) _);have em:Int.tmod (i:Int) 4=(i:Int)%4:=Int.tmod_eq_emod_of_nonneg (by omega);rcases (show i%4=0∨i%4=1∨i%4=2∨i%4=3 by omega) with h|h|h|h
 ·have e0:(i:Int)%4=0:=by omega
  rw[e0]at em;have P:Hd (PO.fits ⟨k,x,p⟩ i=PO.nameT ⟨k,x,p⟩):=hd (by rw[HF.o,if_pos h]);clear h hi;go_enter func22,ntmps22;go_wp2_with (go_at_call 51;refine(CN.o _).mono ?_;rintro e1 w1 ⟨rfl,hb⟩)
  go_ret;exact⟨by rw[P.o];rfl,bel HB.o hb⟩
 ·have e0:(i:Int)%4=1:=by omega
  rw[e0]at em;by_cases h6:k=6
  ·have e6:((k:Int)==6)=true:=by rw[h6];rfl
   have P:Hd (PO.fits ⟨k,x,p⟩ i=decide (o≠0)):=hd (by rw[HF.o,if_neg (by omega),if_pos h,h6];simp);clear h hi h6;by_cases ho:o=0
   ·subst ho
    go_enter func22,ntmps22;go_wp2_with (go_at_call 24;refine(CO.o _).mono ?_;rintro e1 w1 ⟨rfl,rfl⟩)
    go_ret;exact⟨by rw[P.o];rfl,HB.o⟩
   ·have ho1:((o:Int)!=0)=true:=by(rw[bne_iff_ne];omega)
    have ho2:(0:Int)<(o:Int):=(by omega);have P2:Hd (decide (o≠0)=true):=hd (by simp[ho]);clear ho;go_enter func22,ntmps22;go_wp2_with (go_at_call 24;refine(CO.o _).mono ?_;rintro e1 w1 ⟨rfl,rfl⟩)
    go_ret;exact⟨ret_bool (by first|(rw[P.o,P2.o];done)|(rw[P.o,P2.o];simp;omega)),HB.o⟩
  ·have e6:((k:Int)==6)=false:=by(rw[bf];omega)
   have P:Hd (PO.fits ⟨k,x,p⟩ i=false):=hd (by rw[HF.o,if_neg (by omega),if_pos h];simp[h6]);clear h hi h6;go_enter func22,ntmps22;go_wp2;go_ret;exact⟨by rw[P.o];rfl,HB.o⟩
 ·have e0:(i:Int)%4=2:=by omega
  rw[e0]at em;have P:Hd (PO.fits ⟨k,x,p⟩ i=decide (k=5)):=hd (by rw[HF.o,if_neg (by omega),if_neg (by omega),if_pos h]);by_cases h5:k=5
  ·have e5:((k:Int)==5)=true:=by rw[h5];rfl
   have P2:Hd (decide (k=5)=true):=hd (by simp[h5]);clear h hi h5;go_enter func22,ntmps22;go_wp2;go_ret;exact⟨by rw[P.o,P2.o];rfl,HB.o⟩
  ·have e5:((k:Int)==5)=false:=by(rw[bf];omega)
   have P2:Hd (decide (k=5)=false):=hd (by simp[h5]);clear h hi h5;go_enter func22,ntmps22;go_wp2;go_ret;exact⟨by rw[P.o,P2.o];rfl,HB.o⟩
 ·have e0:(i:Int)%4=3:=by omega
  rw[e0]at em;have P:Hd (PO.fits ⟨k,x,p⟩ i=PO.andT ⟨k,x,p⟩):=hd (by rw[HF.o,if_neg (by omega),if_neg (by omega),if_neg (by omega)]);clear h hi;go_enter func22,ntmps22;go_wp2_with (go_at_call 52;refine(CW.o _).mono ?_;rintro e1 w1 ⟨rfl,hb⟩)
  go_ret;exact⟨by rw[P.o];rfl,bel HB.o hb⟩
theorem rpfits_any (t:SC.Tk)(i:Nat)(w:World)(hs:t.text.size≤1099511627776)(hi:i≤1099511627776) :
  Calls prog 26 #[.agg #[.int .i64 (t.kind:Int),.string t.text,.int .i64 (t.pos:Int)],.int .i64 i] w fun e w'=>e=.returned (.bool (PO.fits t i))∧Below w.heap.size w w':=by
 have HF:Hd (PO.fits t i=if i%4=0 then PO.nameT t else if i%4=1 then decide (t.kind=6) && decide (PO.opN t.text≠0) else if i%4=2 then decide (t.kind=5) else PO.andT t):=hd rfl;have CN:=hd (fun W:World=>rpname_any t W hs);have CO:=hd (fun W:World=>rpop_any t.text W);have CW:=hd (fun W:World=>rlword_any t.text W hs);have hop:PO.opN t.text≤4:=(by unfold PO.opN PO.opL;split;omega;split;omega;split;omega;split<;>omega);obtain⟨o,HO⟩:∃o,Hd (PO.opN t.text=o):=⟨_,hd rfl⟩
 rw[HO.o]at CO HF hop;have HAN:Hd (PO.andT t=(decide (t.kind=1) && PO.andS t.text)):=hd rfl;obtain⟨k,x,p⟩:=t;simp only at hs CN CO CW HF HAN;have HB:=hd (show Below w.heap.size w (w.alloc (.cells #[.int .i64 (k:Int),.string x,.int .i64 (p:Int)] 53)) from (Below.refl _ _).alloc (Nat.le_refl _) _);have em:Int.tmod (i:Int) 4=(i:Int)%4:=Int.tmod_eq_emod_of_nonneg (by omega);rcases (show i%4=0∨i%4=1∨i%4=2∨i%4=3 by omega) with h|h|h|h
 ·have e0:(i:Int)%4=0:=by omega
  rw[e0]at em;have P:Hd (PO.fits ⟨k,x,p⟩ i=PO.nameT ⟨k,x,p⟩):=hd (by rw[HF.o,if_pos h]);clear h hi;go_enter func26,ntmps26;go_wp2_with (go_at_call 63;refine(CN.o _).mono ?_;rintro e1 w1 ⟨rfl,hb⟩)
  go_ret;exact⟨by rw[P.o];rfl,bel HB.o hb⟩
 ·have e0:(i:Int)%4=1:=by omega
  rw[e0]at em;by_cases h6:k=6
  ·have e6:((k:Int)==6)=true:=by rw[h6];rfl
   have P:Hd (PO.fits ⟨k,x,p⟩ i=decide (o≠0)):=hd (by rw[HF.o,if_neg (by omega),if_pos h,h6];simp);clear h hi h6;by_cases ho:o=0
   ·subst ho
    go_enter func26,ntmps26;go_wp2_with (go_at_call 28;refine(CO.o _).mono ?_;rintro e1 w1 ⟨rfl,rfl⟩)
    go_ret;exact⟨by rw[P.o];rfl,HB.o⟩
   ·have ho1:((o:Int)!=0)=true:=by(rw[bne_iff_ne];omega)
    have ho2:(0:Int)<(o:Int):=(by omega);have P2:Hd (decide (o≠0)=true):=hd (by simp[ho]);clear ho;go_enter func26,ntmps26;go_wp2_with (go_at_call 28;refine(CO.o _).mono ?_;rintro e1 w1 ⟨rfl,rfl⟩)
    go_ret;exact⟨ret_bool (by first|(rw[P.o,P2.o];done)|(rw[P.o,P2.o];simp;omega)),HB.o⟩
  ·have e6:((k:Int)==6)=false:=by(rw[bf];omega)
   have P:Hd (PO.fits ⟨k,x,p⟩ i=false):=hd (by rw[HF.o,if_neg (by omega),if_pos h];simp[h6]);clear h hi h6;go_enter func26,ntmps26;go_wp2;go_ret;exact⟨by rw[P.o];rfl,HB.o⟩
 ·have e0:(i:Int)%4=2:=by omega
  rw[e0]at em;have P:Hd (PO.fits ⟨k,x,p⟩ i=decide (k=5)):=hd (by rw[HF.o,if_neg (by omega),if_neg (by omega),if_pos h]);by_cases h5:k=5
  ·have e5:((k:Int)==5)=true:=by rw[h5];rfl
   have P2:Hd (decide (k=5)=true):=hd (by simp[h5]);clear h hi h5;go_enter func26,ntmps26;go_wp2;go_ret;exact⟨by rw[P.o,P2.o];rfl,HB.o⟩
  ·have e5:((k:Int)==5)=false:=by(rw[bf];omega)
   have P2:Hd (decide (k=5)=false):=hd (by simp[h5]);clear h hi h5;go_enter func26,ntmps26;go_wp2;go_ret;exact⟨by rw[P.o,P2.o];rfl,HB.o⟩
 ·have e0:(i:Int)%4=3:=by omega
  rw[e0]at em;have P:Hd (PO.fits ⟨k,x,p⟩ i=PO.andT ⟨k,x,p⟩):=hd (by rw[HF.o,if_neg (by omega),if_neg (by omega),if_neg (by omega)]);by_cases h1:k=1
  ·have e1:((k:Int)==1)=true:=by rw[h1];rfl
   have K1:Hd (decide (k=1)=true):=hd (by simp[h1]);clear h hi h1;go_enter func26,ntmps26;go_wp2_with fail
   refine(CW.o _).mono ?_;rintro e1 w1 ⟨⟨r,ok,rfl,hr⟩,hb⟩;have HR:=hd hr;have HB1:=hd (bel HB.o hb);have g0:w1.cell? ⟨w.heap.size,0,none⟩=some (.int .i64 (k:Int)):=(hb.cell (p:=⟨w.heap.size,0,none⟩) (by simp)).trans (by simp);clear hr hb;cases ok with
   |true=>
    go_wp2;go_ret;exact⟨by rw[P.o,HAN.o,K1.o,Bool.true_and];first|rfl|(rw[←HR.o];rfl),HB1.o⟩
   |false=>
    go_wp2;go_ret;exact⟨by rw[P.o,HAN.o,K1.o,Bool.true_and];first|rfl|(rw[←HR.o];rfl),HB1.o⟩
  ·have e1:((k:Int)==1)=false:=by(rw[bf];omega)
   have K1:Hd (decide (k=1)=false):=hd (by simp[h1]);clear h hi h1;go_enter func26,ntmps26;go_wp2_with fail
   refine(CW.o _).mono ?_;rintro e1 w1 ⟨⟨r,ok,rfl,hr⟩,hb⟩;have HR:=hd hr;have HB1:=hd (bel HB.o hb);have g0:w1.cell? ⟨w.heap.size,0,none⟩=some (.int .i64 (k:Int)):=(hb.cell (p:=⟨w.heap.size,0,none⟩) (by simp)).trans (by simp);clear hr hb;cases ok with
   |true=>
    go_wp2;go_ret;exact⟨by rw[P.o,HAN.o,K1.o];first|rfl|(rw[←HR.o];rfl),HB1.o⟩
   |false=>
    go_wp2;go_ret;exact⟨by rw[P.o,HAN.o,K1.o];first|rfl|(rw[←HR.o];rfl),HB1.o⟩
theorem poparse_go (s:ByteArray)(w:World)(N:Nm2 w)(hs:s.size≤1024) :
  Calls prog 7 #[.string s] w fun e w'=>PO.ParseA w (PO.parse s) e w':=by
 have hsI:¬ (1024:Int)<(s.size:Int):=(by omega);have HS:=hd hs;have CS:=hd (scan_any s w N (by omega));have HSC:Hd (SC.scan s=SC.go s 0 false false):=hd (by unfold SC.scan;rw[if_neg (by omega)]);rw[HSC.o]at CS;clear hs N;cases hg:SC.go s 0 false false with
 |bad p er=>
  obtain⟨her,hp⟩:=SC.go_err s _ 0 false false p er rfl hg;have heN:(er !=0)=true:=by(rw[bne_iff_ne];omega)
  have HP:=hd (PO.parse_bad HS.o hg);rw[hg]at CS;clear her hg HSC;go_enter func7,ntmps7;go_wp2_with (go_at_call 20;refine CS.o.mono ?_;rintro e1 w1 ⟨rfl,hb⟩)
  go_ret3;exact PO.parse_nil HP.o hb
 |ok T=>
  obtain⟨hsm,hlen⟩:=SC.go_small s _ 0 false false T rfl hg;have HSM:=hd hsm;have HP:=hd (PO.parse_ok HS.o hg);have hTl:T.length≤1024:=(by have:=HS.o;omega);rw[hg]at CS;clear hg HSC hsm hlen;go_enter func7,ntmps7;go_wp2_with fail
  refine CS.o.mono ?_;rintro e1 w1 ⟨v,rfl,hown,hb⟩;have HB1:=hd hb;obtain⟨A,c,rfl⟩:=own_shape hown;have HT:=hd hown;have hw1:=hb.size;clear hown hb CS;have C0:=hd (fun (h:0<T.length) (W:World)=>postar_any (T[0]'h) W);go_upto_region 6 with fail
  go_cut [35] from 27 to 35 (fun x35 wx=>x35=.bool (PO.starH T)∧Hd (Below w.heap.size w wx)∧Hd (wx.ownsRow w.heap.size 53 3 (.slice A T.length c) T.length (SC.cellsT T)))
  case first=>
   by_cases h0:0<T.length
   ·have h0I:(0:Int)<(T.length:Int):=by omega
    obtain⟨b,off,rfl,hbl,d0,d1,d2⟩:=SC.tok_at (IsL.own HT.o) 0 h0;simp only[Nat.zero_mul,Nat.add_zero]at d0 d1 d2;have C0':=hd (C0.o h0);have HST:Hd (PO.starH T=PO.starT (T[0]'h0)):=hd (by cases T with|nil=>exact absurd h0 (by decide)|cons t r=>rfl);generalize T[0]'h0=t0 at *;go_wp2_with (go_at_call 21;refine(C0'.o _).mono ?_;rintro e2 w2 ⟨rfl,hb2⟩;have HB2:=hd (HB1.o.trans (hb2.mono hw1));have HT2:=hd (own_below HT.o hb2);clear hb2)
    go_meet;exact⟨by rw[HST.o],HB2,HT2⟩
   ·have h0I:¬ (0:Int)<(T.length:Int):=by omega
    have HST:Hd (PO.starH T=false):=hd (by cases T with|nil=>rfl|cons t r=>exact absurd (by simp) h0);go_wp2;go_meet;exact⟨by rw[HST.o],HB1,HT⟩
  case rest=>
   obtain⟨rfl,HB2,HT2⟩:=hcut;have hw2:=HB2.o.size;clear C0 HT HB1 hw1;cases hst:PO.starH T with
   |true=>
    have HST:=hd hst;clear hst;by_cases h1:1<T.length
    ·have h1I:(1:Int)<(T.length:Int):=by omega
     obtain⟨b,off,rfl,_,g0,g1,g2⟩:=SC.tok_at (IsL.own HT2.o) 1 h1;have HRD:=hd (PO.read_star2 (n:=s.size) HST.o h1);rw[PO.posAt_eq h1]at HRD;generalize T[1]'h1=t1 at *;go_wp2
     go_region
     go_wp2;go_ret3;exact PO.parse_nil (HP.o.trans HRD.o) HB2.o.drew
    ·have h1I:¬ (1:Int)<(T.length:Int):=by omega
     have HRD:=hd (PO.read_star1 (n:=s.size) HST.o h1);go_wp2;go_ret3;exact PO.parse_nil (HP.o.trans HRD.o) HB2.o
   |false=>
    have HST:=hd hst;clear hst;go_wp2;go_loopw [45] (fun x wr=>∃k:Nat,k≤T.length∧x=.int .i64 k∧Hd (PO.bad (T.drop k) k=PO.bad T 0)∧Hd (Below w.heap.size w wr)∧Hd (wr.ownsRow w.heap.size 53 3 (.slice A T.length c) T.length (SC.cellsT T))) (fun x _=>T.length-(intOf x).toNat)
    case atStart=>exact⟨0,Nat.zero_le _,rfl,hd rfl,HB2,HT2⟩
    case round=>
     obtain⟨k,hk,rfl,HBD,HB,HTR⟩:=hrel;have hwr:=HB.o.size;by_cases hlt:k<T.length
     ·have hltI:(k:Int)<(T.length:Int):=by omega
      obtain⟨b,off,rfl,hbl,d0,d1,d2⟩:=SC.tok_at (IsL.own HTR.o) k hlt;have HST2:=hd (PO.bad_step hlt);have hsz:=(HSM.o _ (List.getElem_mem hlt)).1;generalize T[k]'hlt=t at *;have CF:=hd (fun W:World=>pofits_any t k W (by have:=HS.o;omega) (by omega));have HBA:=hd (show Below w.heap.size w (wr.alloc (.cells #[.int .i64 (t.kind:Int),.string t.text,.int .i64 (t.pos:Int)] 53)) from HB.o.alloc hwr _);have HTA:=hd (own_below HTR.o (show Below wr.heap.size wr (wr.alloc (.cells #[.int .i64 (t.kind:Int),.string t.text,.int .i64 (t.pos:Int)] 53)) from (Below.refl _ _).alloc (Nat.le_refl _) _))
      have hwa:=HBA.o.size;cases hf:PO.fits t k with
      |true=>
       rw[hf]at CF;have HN:Hd (PO.bad (T.drop (k+1)) (k+1)=PO.bad T 0):=hd (by rw[←HBD.o,HST2.o,hf];simp);clear hf hsz HST2 HBD;go_wp2_with (go_at_call 22;refine(CF.o _).mono ?_;rintro e2 w2 ⟨rfl,hb2⟩;have HB3:=hd (HBA.o.trans (hb2.mono hwa));have HT3:=hd (own_below HTA.o hb2);clear hb2)
       go_roundw
       case rel=>exact⟨k+1,by omega,by go_num,HN,HB3,HT3⟩
       case measure=>simp[intOf];omega
      |false=>
       rw[hf]at CF;have HRD:=hd (PO.read_bad (n:=s.size) (t:=t) HST.o (by rw[←HBD.o,HST2.o,hf];simp));clear hf hsz HST2 HBD;go_wp2_with (go_at_call 22;refine(CF.o _).mono ?_;rintro e2 w2 ⟨rfl,hb2⟩;have HB3:=hd (HBA.o.trans (hb2.mono hwa));have g2:w2.cell? ⟨wr.heap.size,2,none⟩=some (.int .i64 (t.pos:Int)):=(hb2.cell (p:=⟨wr.heap.size,2,none⟩) (by simp)).trans (by simp);clear hb2)
       go_region
       go_wp2;go_ret3;exact PO.parse_nil (HP.o.trans HRD.o) HB3.o.drew
     ·have hkT:T.length≤k:=by omega
      have HNO:Hd (PO.bad T 0=none):=hd (by rw[←HBD.o];exact PO.bad_end hkT);clear HBD hkT;have em:Int.tmod (T.length:Int) 4=(T.length:Int)%4:=Int.tmod_eq_emod_of_nonneg (by omega);by_cases h3:T.length%4=3
      ·have e3:(T.length:Int)%4=3:=by omega
       rw[e3]at em;by_cases h4:64<T.length
       ·have h4I:(64:Int)<(T.length:Int):=by omega
        obtain⟨b,off,rfl,_,g0,g1,g2⟩:=SC.tok_at (IsL.own HTR.o) 64 h4;have HRD:=hd (PO.read_many (n:=s.size) HST.o HNO.o h3 h4);rw[PO.posAt_eq h4]at HRD;generalize T[64]'h4=t1 at *;go_wp2
        go_region
        go_wp2;go_ret3;exact PO.parse_nil (HP.o.trans HRD.o) HB.o.drew
       ·have h4I:(T.length:Int)≤64:=by omega
        have HRD:=hd (PO.read_ok (n:=s.size) HST.o HNO.o h3 h4);clear HNO HST;go_wp2;go_loopw [10,11] (fun o x wq=>∃(i:Nat) (P:List PO.Mt),i%4=0∧i≤64∧x=.int .i64 i∧P.length≤16∧Hd (P.length*4=i)∧Hd (PO.rules T=P++PO.rules (T.drop i))∧Hd (wq.ownsRow w.heap.size 47 3 o P.length (PO.cellsM P))∧Hd (Below w.heap.size w wq)∧Hd (wq.ownsRow w.heap.size 53 3 (.slice A T.length c) T.length (SC.cellsT T))) (fun _ x _=>70-(intOf x).toNat)
        case atStart=>exact⟨0,[],rfl,by omega,rfl,by simp,hd rfl,hd rfl,hd ⟨rfl,.inl ⟨rfl,rfl⟩⟩,HB,HTR⟩
        case round=>
         obtain⟨i,P,hi4,hi65,rfl,hP16,HPI,HRU,HOW,HBQ,HTQ⟩:=hrel;have hwq:=HBQ.o.size;by_cases hil:i<T.length
         ·have hilI:(i:Int)<(T.length:Int):=by omega
          have hi2:i+2<T.length:=(by omega);have hi2I:(i:Int)+2<(T.length:Int):=(by omega);have hi1I:(i:Int)+1<(T.length:Int):=(by omega);obtain⟨b,off,rfl,hbl,d0,d1,d2⟩:=SC.tok_at (IsL.own HTQ.o) i hil;obtain⟨b',off',he,_,f0,f1,f2⟩:=SC.tok_at (IsL.own HTQ.o) (i+1) (by omega);simp only[Option.some.injEq,Addr.mk.injEq,and_true]at he;obtain⟨rfl,rfl⟩:=he;obtain⟨b',off',he,_,g0,g1,g2⟩:=SC.tok_at (IsL.own HTQ.o) (i+2) hi2;simp only[Option.some.injEq,Addr.mk.injEq,and_true]at he;obtain⟨rfl,rfl⟩:=he;have HRS:=hd (PO.rules_step hi2);have hsz:=(HSM.o _ (List.getElem_mem hi2)).1
          have hP15:P.length≤15:=(by have:=HPI.o;omega);generalize T[i]'hil=ta at *;generalize T[i+1]'(by omega)=tb at *;generalize T[i+2]'hi2=tc at *;obtain⟨uq,ue,HUE⟩:∃uq ue,Hd (U.unquote tc.text=(uq,ue)):=⟨_,_,hd rfl⟩
          have CU:=hd (fun W:World=>by have h:=unquote_any tc.text W (by have:=HS.o;omega);rw[HUE.o]at h;unfold strR at h;exact h);simp only at CU;have HUQ:Hd (SC.uq tc=⟨uq.toArray⟩):=hd (by unfold SC.uq;rw[HUE.o]);have CO:=hd (fun W:World=>poop_any tb.text W);obtain⟨on,HON⟩:∃on,Hd (PO.opN tb.text=on):=⟨_,hd rfl⟩
          rw[HON.o]at CO HRS;rw[HUQ.o]at HRS;generalize (⟨uq.toArray⟩:ByteArray)=ux at *;clear d0 d2 f0 f2 g0 g2 hsz;go_wp2_with fail
          refine(CU.o _).mono ?_;rintro e3 w3 ⟨rfl,hb3⟩;have k1:=(hb3.cell (p:=⟨b,off+i*3+1,none⟩) hbl).trans d1;have k2:=(hb3.cell (p:=⟨b,off+(i+1)*3+1,none⟩) hbl).trans f1;have HO3:=hd (own_below HOW.o hb3);have HB3:=hd (HBQ.o.trans (hb3.mono hwq));have HT3:=hd (own_below HTQ.o hb3);have hw3:=HB3.o.size;obtain⟨j,hj⟩:∃j,j=i+1:=⟨_,rfl⟩
          have hwp1:IntKind.i64.wrap ((i:Int)+1)=(j:Int):=(by rw[IntKind.wrap_i64];omega);have hjT:j<T.length:=(by omega);have hjI:(j:Int)<(T.length:Int):=(by omega);rw[←hj]at k2;have HJ:=hd hj;clear d1 f1 g1 hb3 CU HOW HBQ HTQ hj;go_wp2_with fail
          go_region_law (first
           |(refine step_app_lit 23 47 (.agg #[.string ⟨#[]⟩,.int .i64 0,.string ⟨#[]⟩]) 3 40 underlying23 info_matcher rfl (by decide) rfl (.tmp 86) (.tmp 101) rfl w.heap.size u10 P.length (PO.cellsM P) w3 #[.string ta.text,.int .i64 (on:Int),.string ux] 1 rfl rfl HO3.o rfl (by simp[Value.oneCell']) (by omega) (by omega) hw3 ?_;intro v4 w4 ho4 hg4)
           |(go_simp;go_at_call 24;refine(CO.o _).mono ?_;rintro e4 w5 ⟨rfl,rfl⟩))
          all_goals (
           have HO4:Hd (w4.ownsRow w.heap.size 47 3 v4 (P++[(⟨ta.text,on,ux⟩:PO.Mt)]).length (PO.cellsM (P++[(⟨ta.text,on,ux⟩:PO.Mt)]))):=hd (by rw[List.length_append,PO.cellsM_app];exact ho4);have HB4:=hd (bel_grown HB3.o hg4 (fun g h=>(HO3.o.lt g h).1));have HT4:=hd (own_kept HT3.o hg4 (own_type_ne HT3.o HO3.o (by decide)));have HRU4:Hd (PO.rules T=(P++[(⟨ta.text,on,ux⟩:PO.Mt)])++PO.rules (T.drop (i+4))):=hd (by rw[HRU.o,HRS.o];simp);have HPI4:Hd ((P++[(⟨ta.text,on,ux⟩:PO.Mt)]:List PO.Mt).length*4=i+4):=hd (by have:=HPI.o;simp;omega)
           have hP4:(P++[(⟨ta.text,on,ux⟩:PO.Mt)]:List PO.Mt).length≤16:=(by simp;omega);clear ho4 hg4 HRU HRS HPI HO3 HT3 HB3 k1 k2 hwp1 CO;go_wp2;go_roundw
           case rel=>exact⟨i+4,P++[(⟨ta.text,on,ux⟩:PO.Mt)],by omega,by have:=HPI4.o;omega,by go_num,hP4,HPI4,HRU4,HO4,HB4,HT4⟩
           case measure=>simp[intOf];omega)
         ·have hne:T.length≤i:=by omega
          have HRE:Hd (PO.rules T=P):=hd (by rw[HRU.o,PO.rules_end hne,List.append_nil]);clear HRU hne;go_wp2;go_ret3;exact(by rw[HP.o,HRD.o];exact⟨_,rfl,by show World.ownsRow _ _ _ _ _ (PO.rules T).length (PO.cellsM (PO.rules T));rw[HRE.o];exact HOW.o,HBQ.o⟩)
      ·have e3:¬ (T.length:Int)%4=3:=by omega
       have em3:((T.length:Int)%4!=3)=true:=by(rw[bne_iff_ne];exact e3)
       have HRD:=hd (PO.read_len (n:=s.size) HST.o HNO.o h3);clear e3 h3;go_wp2;go_ret3;exact PO.parse_nil (HP.o.trans HRD.o) HB.o
theorem PO.parse_long {s:ByteArray}(h:1024<s.size):PO.parse s=⟨[],0,1⟩:=by
 unfold PO.parse;rw[if_pos h]
theorem poparse_any (s:ByteArray)(w:World)(N:Nm2 w) :
  Calls prog 7 #[.string s] w fun e w'=>PO.ParseA w (PO.parse s) e w':=by
 by_cases h:s.size≤1024
 ·exact poparse_go s w N h
 ·have hsI:(1024:Int)<(s.size:Int):=by omega
  have HP:=hd (PO.parse_long (s:=s) (by omega));clear N;go_enter func7,ntmps7;go_wp2;go_ret3;exact PO.parse_nil HP.o (Below.refl _ _)
namespace PO
theorem cellsM_at:∀(T:List Mt) (i:Nat) (hi:i<T.length),(cellsM T)[i*3]?=some (.string (T[i]'hi).name)∧(cellsM T)[i*3+1]?=some (.int .i64 ((T[i]'hi).op:Int))∧(cellsM T)[i*3+2]?=some (.string (T[i]'hi).value)
 |t::T,0,_=>⟨rfl,rfl,rfl⟩
 |t::T,i+1,hi=>by
  have h:=cellsM_at T i (by simpa using hi);have e:∀j,(cellsM (t::T))[(i+1)*3+j]?=(cellsM T)[i*3+j]?:=fun j=>by
   rw[show (i+1)*3+j=i*3+j+3 by omega];rfl
  have e0:=e 0;rw[Nat.add_zero,Nat.add_zero]at e0;rw[e0,e 1,e 2];exact h
theorem mat_at {w:World}{A:Option Addr}{n c:Nat}{T:List Mt}(h:IsL 3 w (.slice A n c) n (cellsM T))(i:Nat)(hi:i<T.length) :
  ∃b off,A=some ⟨b,off,none⟩∧b<w.heap.size∧w.cell? ⟨b,off+i*3,none⟩=some (.string (T[i]'hi).name)∧w.cell? ⟨b,off+i*3+1,none⟩=some (.int .i64 ((T[i]'hi).op:Int))∧w.cell? ⟨b,off+i*3+2,none⟩=some (.string (T[i]'hi).value):=by
 obtain⟨hl,A',c',e,r⟩:=h;simp only[Value.slice.injEq,true_and]at e;obtain⟨rfl,_⟩:=e;have hz:=cellsM_len T;obtain⟨b,off,rfl,hb,hc⟩:=r.head (by omega);obtain⟨h0,h1,h2⟩:=cellsM_at T i hi;refine⟨b,off,rfl,hb,?_,?_,?_⟩
 ·rw[hc (i*3) (by omega)]
  rw[List.getElem?_eq_getElem (by omega)]at h0;exact h0
 ·rw[Nat.add_assoc,hc (i*3+1) (by omega)]
  rw[List.getElem?_eq_getElem (by omega)]at h1;exact h1
 ·rw[Nat.add_assoc,hc (i*3+2) (by omega)]
  rw[List.getElem?_eq_getElem (by omega)]at h2;exact h2
end PO
theorem matcher_eq (w:World)(a b c d:ByteArray)(m n:Int):(Op.equalIn 10000 47 (.agg #[.string a,.int .i64 m,.string b]) (.agg #[.string c,.int .i64 n,.string d])).run prog w=.ok (a.toList==c.toList && (m==n && b.toList==d.toList)) w:=by
 have ht:prog.underlying 47=some (.struct (prog.fieldsOf 47)):=(by unfold Program.fieldsOf;rw[underlying47]);have hp:prog.stoodInHeld 47=false:=(by kernel_rfl);have hs:=underlying9;have hi:=underlying3;rw[run_equalIn_agg w 9999 _ _ _ ht hp];unfold Program.fieldsOf;rw[underlying47];have h1:=run_equalIn_string (P:=prog) w 9998 9 a c hs;have h2:=run_equalIn_string (P:=prog) w 9998 9 b d hs;have h3:=run_equalIn_int (P:=prog) w 9998 3 .i64 _ m n hi;simp[Op.eqFields,part,isAgg,run_underlying hs,run_underlying hi,h1,h2,h3]
 by_cases h4:a.toList=c.toList
 ·by_cases h5:m=n
  ·by_cases h6:b.toList=d.toList
   ·simp[h4,h5,h6]
   ·simp[h4,h5,h6]
  ·simp[h4,h5]
 ·simp[h4]
theorem msame_any (A B:Option Addr)(ca cb n:Nat)(xs:List PO.Mt)(w:World)(hx:IsL 3 w (.slice A n ca) n (PO.cellsM xs))(hy:IsL 3 w (.slice B n cb) n (PO.cellsM xs))(hln:xs.length=n)(hn:n≤1125899906842624) :
  Calls prog 9 #[.slice A n ca,.slice B n cb] w fun e w'=>e=.returned (.bool true)∧Below w.heap.size w w':=by
 have H1:=hd hx;have H2:=hd hy;have HX:=hd hln;have hle:=matcher_eq;clear hx hy hln;go_enter func9,ntmps9;go_wp2;go_loopw [5] (fun x wr=>∃k q:Nat,k≤n∧x=.int .i64 k∧wr=w.drewN q) (fun x _=>n-(intOf x).toNat)
 case atStart=>exact⟨0,0,Nat.zero_le _,rfl,rfl⟩
 case round=>
  obtain⟨k,q,hk,rfl,rfl⟩:=hrel;by_cases hlt:k<n
  ·have hkx:k<xs.length:=by rw[HX.o];exact hlt
   obtain⟨b1,o1,rfl,_,c1,c2,c3⟩:=PO.mat_at H1.o k hkx;obtain⟨b2,o2,rfl,_,c4,c5,c6⟩:=PO.mat_at H2.o k hkx;have hik:(0:Int)≤(k:Int):=(by omega);have hikn:(k:Int)<(n:Int):=(by omega);generalize xs[k]=x at *;have hl:(x.name.toList==x.name.toList && (((x.op:Nat):Int)==(x.op:Int) && x.value.toList==x.value.toList))=true:=(by simp);go_wp2_with fail
   go_quiet (fail)
   go_wp2;go_roundw
   case rel=>exact⟨k+1,_,by omega,by go_num,rfl⟩
   case measure=>simp[intOf];omega
  ·go_wp2
   go_ret;exact⟨rfl,bel_drew (Below.refl _ _) _⟩
namespace PO
def ab:ByteArray:=⟨#[97,61,34,98,34]⟩
theorem ab_t0:SC.tok ab 0 false false=.ok 1 1 false false:=by
 unfold SC.tok;rw[if_pos (by decide +kernel)];unfold SC.nameR;rw[show L.nlen (!false && !false) (ab.data.toList.drop 0)=1 by decide +kernel];rw[show SC.nameK false ((ab.data.toList.drop 0).take 1)=1 by decide +kernel]
theorem ab_t1:SC.tok ab 1 false false=.ok 6 1 false false:=by
 unfold SC.tok;rw[if_neg (by decide +kernel),if_neg (by decide +kernel),if_neg (by decide +kernel)];rw[show U.at' ab 1=61 by decide +kernel,show U.at' ab (1+1)=34 by decide +kernel];rfl
theorem ab_l:U.literal ab ((2:Nat):Int)=(5,0):=by decide +kernel
theorem ab_e:ab.extract 2 5=⟨#[34,98,34]⟩:=by decide +kernel
theorem ab_u:U.unquote ⟨#[34,98,34]⟩=([98],0):=by decide +kernel
theorem ab_t2:SC.tok ab 2 false false=.ok 5 3 false false:=by
 unfold SC.tok;rw[if_neg (by decide +kernel),if_neg (by decide +kernel),if_pos (by decide +kernel)];unfold SC.litK;rw[ab_l];rw[if_neg (by rw[show ((5:Int),(0:Int)).1.toNat=5 from rfl,ab_e,ab_u];simp)];rfl
theorem ab_toks:SC.scan ab=.ok [⟨1,⟨#[97]⟩,0⟩,⟨6,⟨#[61]⟩,1⟩,⟨5,⟨#[34,98,34]⟩,2⟩]:=by
 unfold SC.scan;rw[if_neg (by decide +kernel)];rw[SC.go_tok (by decide +kernel) (by decide +kernel) ab_t0 (by decide)];rw[SC.go_tok (by decide +kernel) (by decide +kernel) ab_t1 (by decide)];rw[SC.go_tok (by decide +kernel) (by decide +kernel) ab_t2 (by decide)];rw[SC.go_done (by decide +kernel)];rw[show ab.extract 0 (0+1)=⟨#[97]⟩ by decide +kernel,show ab.extract (0+1) (0+1+1)=⟨#[61]⟩ by decide +kernel,show ab.extract (0+1+1) (0+1+1+3)=⟨#[34,98,34]⟩ by decide +kernel];rfl
theorem ab_parse:parse ab=⟨[⟨⟨#[97]⟩,1,⟨#[98]⟩⟩],0,0⟩:=by
 unfold parse;rw[if_neg (by decide +kernel),ab_toks];show read _ _=_
 rw[read_ok (by decide +kernel) (by decide +kernel) (by decide) (by decide)];show Ans.mk [⟨⟨#[97]⟩,opN ⟨#[61]⟩,SC.uq ⟨5,⟨#[34,98,34]⟩,2⟩⟩] 0 0=_
 rw[show opN ⟨#[61]⟩=1 by decide +kernel];unfold SC.uq;show Ans.mk [⟨⟨#[97]⟩,1,⟨(U.unquote ⟨#[34,98,34]⟩).1.toArray⟩⟩] 0 0=_
 rw[ab_u]
end PO
theorem rpparse_go (s:ByteArray)(w:World)(hs:s.size≤1024) :
  Calls prog 8 #[.string s] w fun e w'=>PO.ParseA w (PO.parse s) e w':=by
 have hsI:¬ (1024:Int)<(s.size:Int):=(by omega);have HS:=hd hs;have CS:=hd (rlscan_any s w (by omega));have HSC:Hd (SC.scan s=SC.go s 0 false false):=hd (by unfold SC.scan;rw[if_neg (by omega)]);rw[HSC.o]at CS;clear hs;cases hg:SC.go s 0 false false with
 |bad p er=>
  obtain⟨her,hp⟩:=SC.go_err s _ 0 false false p er rfl hg;have heN:(er !=0)=true:=by(rw[bne_iff_ne];omega)
  have HP:=hd (PO.parse_bad HS.o hg);rw[hg]at CS;clear her hg HSC;go_enter func8,ntmps8;go_wp2_with (go_at_call 25;refine CS.o.mono ?_;rintro e1 w1 ⟨rfl,hb⟩)
  go_ret3;exact PO.parse_nil HP.o hb
 |ok T=>
  obtain⟨hsm,hlen⟩:=SC.go_small s _ 0 false false T rfl hg;have HSM:=hd hsm;have HP:=hd (PO.parse_ok HS.o hg);have hTl:T.length≤1024:=(by have:=HS.o;omega);rw[hg]at CS;clear hg HSC hsm hlen;go_enter func8,ntmps8;go_wp2_with fail
  refine CS.o.mono ?_;rintro e1 w1 ⟨v,rfl,hown,hb⟩;have HB1:=hd hb;obtain⟨A,c,rfl⟩:=own_shape hown;have HT:=hd hown;have hw1:=hb.size;clear hown hb CS;go_upto_region 6 with fail
  go_cut [42] from 26 to 42 (fun x35 wx=>x35=.bool (PO.starH T)∧Hd (Below w.heap.size w wx)∧Hd (wx.ownsRow w.heap.size 53 3 (.slice A T.length c) T.length (SC.cellsT T)))
  case first=>
   by_cases h0:0<T.length
   ·have h0I:(0:Int)<(T.length:Int):=by omega
    obtain⟨b,off,rfl,hbl,d0,d1,d2⟩:=SC.tok_at (IsL.own HT.o) 0 h0;simp only[Nat.zero_mul,Nat.add_zero]at d0 d1 d2;have HST:Hd (PO.starH T=(decide ((T[0]'h0).kind=6) && ((T[0]'h0).text.toList==[42]))):=hd (by cases T with|nil=>exact absurd h0 (by decide)|cons t r=>rfl);generalize T[0]'h0=t0 at *;by_cases h6:t0.kind=6
    ·have e6:((t0.kind:Int)==6)=true:=by rw[h6];rfl
     have P6:Hd (PO.starH T=(t0.text.toList==[42])):=hd (by rw[HST.o,h6];simp);clear h6 HST;go_wp2;go_meet;exact⟨by rw[P6.o],HB1,HT⟩
    ·have e6:((t0.kind:Int)==6)=false:=by(rw[bf];omega)
     have P6:Hd (PO.starH T=false):=hd (by rw[HST.o];simp[h6]);clear h6 HST;go_wp2;go_meet;exact⟨by rw[P6.o],HB1,HT⟩
   ·have h0I:¬ (0:Int)<(T.length:Int):=by omega
    have HST:Hd (PO.starH T=false):=hd (by cases T with|nil=>rfl|cons t r=>exact absurd (by simp) h0);go_wp2;go_meet;exact⟨by rw[HST.o],HB1,HT⟩
  case rest=>
   obtain⟨rfl,HB2,HT2⟩:=hcut;have hw2:=HB2.o.size;clear HT HB1 hw1;cases hst:PO.starH T with
   |true=>
    have HST:=hd hst;clear hst;by_cases h1:1<T.length
    ·have h1I:(1:Int)<(T.length:Int):=by omega
     obtain⟨b,off,rfl,_,g0,g1,g2⟩:=SC.tok_at (IsL.own HT2.o) 1 h1;have HRD:=hd (PO.read_star2 (n:=s.size) HST.o h1);rw[PO.posAt_eq h1]at HRD;generalize T[1]'h1=t1 at *;go_wp2
     go_region
     go_wp2;go_ret3;exact PO.parse_nil (HP.o.trans HRD.o) HB2.o.drew
    ·have h1I:¬ (1:Int)<(T.length:Int):=by omega
     have HRD:=hd (PO.read_star1 (n:=s.size) HST.o h1);go_wp2;go_ret3;exact PO.parse_nil (HP.o.trans HRD.o) HB2.o
   |false=>
    have HST:=hd hst;clear hst;go_wp2;go_loopw [8] (fun x wr=>∃k:Nat,k≤T.length∧x=.int .i64 k∧Hd (PO.bad (T.drop k) k=PO.bad T 0)∧Hd (Below w.heap.size w wr)∧Hd (wr.ownsRow w.heap.size 53 3 (.slice A T.length c) T.length (SC.cellsT T))) (fun x _=>T.length-(intOf x).toNat)
    case atStart=>exact⟨0,Nat.zero_le _,rfl,hd rfl,HB2,HT2⟩
    case round=>
     obtain⟨k,hk,rfl,HBD,HB,HTR⟩:=hrel;have hwr:=HB.o.size;by_cases hlt:k<T.length
     ·have hltI:(k:Int)<(T.length:Int):=by omega
      obtain⟨b,off,rfl,hbl,d0,d1,d2⟩:=SC.tok_at (IsL.own HTR.o) k hlt;have HST2:=hd (PO.bad_step hlt);have hsz:=(HSM.o _ (List.getElem_mem hlt)).1;generalize T[k]'hlt=t at *;have CF:=hd (fun W:World=>rpfits_any t k W (by have:=HS.o;omega) (by omega));cases hf:PO.fits t k with
      |true=>
       rw[hf]at CF;have HN:Hd (PO.bad (T.drop (k+1)) (k+1)=PO.bad T 0):=hd (by rw[←HBD.o,HST2.o,hf];simp);clear hf hsz HST2 HBD;go_wp2_with (go_at_call 26;refine(CF.o _).mono ?_;rintro e2 w2 ⟨rfl,hb2⟩;have HB3:=hd (HB.o.trans (hb2.mono hwr));have HT3:=hd (own_below HTR.o hb2);clear hb2)
       go_roundw
       case rel=>exact⟨k+1,by omega,by go_num,HN,HB3,HT3⟩
       case measure=>simp[intOf];omega
      |false=>
       rw[hf]at CF;have HRD:=hd (PO.read_bad (n:=s.size) (t:=t) HST.o (by rw[←HBD.o,HST2.o,hf];simp));clear hf hsz HST2 HBD;go_wp2_with (go_at_call 26;refine(CF.o _).mono ?_;rintro e2 w2 ⟨rfl,hb2⟩;have HB3:=hd (HB.o.trans (hb2.mono hwr));have g2:=(hb2.cell (p:=⟨b,off+k*3+2,none⟩) hbl).trans d2;clear hb2)
       go_region
       go_wp2;go_ret3;exact PO.parse_nil (HP.o.trans HRD.o) HB3.o.drew
     ·have hkT:T.length≤k:=by omega
      have HNO:Hd (PO.bad T 0=none):=hd (by rw[←HBD.o];exact PO.bad_end hkT);clear HBD hkT;have em:Int.tmod (T.length:Int) 4=(T.length:Int)%4:=Int.tmod_eq_emod_of_nonneg (by omega);by_cases h3:T.length%4=3
      ·have e3:(T.length:Int)%4=3:=by omega
       rw[e3]at em;by_cases h4:64<T.length
       ·have h4I:(64:Int)<(T.length:Int):=by omega
        obtain⟨b,off,rfl,_,g0,g1,g2⟩:=SC.tok_at (IsL.own HTR.o) 64 h4;have HRD:=hd (PO.read_many (n:=s.size) HST.o HNO.o h3 h4);rw[PO.posAt_eq h4]at HRD;generalize T[64]'h4=t1 at *;go_wp2
        go_region
        go_wp2;go_ret3;exact PO.parse_nil (HP.o.trans HRD.o) HB.o.drew
       ·have h4I:(T.length:Int)≤64:=by omega
        have HRD:=hd (PO.read_ok (n:=s.size) HST.o HNO.o h3 h4);clear HNO HST;go_wp2;go_loopw [9,10] (fun o x wq=>∃(i:Nat) (P:List PO.Mt),i%4=0∧i≤64∧x=.int .i64 i∧P.length≤16∧Hd (P.length*4=i)∧Hd (PO.rules T=P++PO.rules (T.drop i))∧Hd (wq.ownsRow w.heap.size 47 3 o P.length (PO.cellsM P))∧Hd (Below w.heap.size w wq)∧Hd (wq.ownsRow w.heap.size 53 3 (.slice A T.length c) T.length (SC.cellsT T))) (fun _ x _=>70-(intOf x).toNat)
        case atStart=>exact⟨0,[],rfl,by omega,rfl,by simp,hd rfl,hd rfl,hd ⟨rfl,.inl ⟨rfl,rfl⟩⟩,HB,HTR⟩
        case round=>
         obtain⟨i,P,hi4,hi65,rfl,hP16,HPI,HRU,HOW,HBQ,HTQ⟩:=hrel;have hwq:=HBQ.o.size;by_cases hil:i<T.length
         ·have hilI:(i:Int)<(T.length:Int):=by omega
          have hi2:i+2<T.length:=(by omega);have hi2I:(i:Int)+2<(T.length:Int):=(by omega);have hi1I:(i:Int)+1<(T.length:Int):=(by omega);obtain⟨b,off,rfl,hbl,d0,d1,d2⟩:=SC.tok_at (IsL.own HTQ.o) i hil;obtain⟨b',off',he,_,f0,f1,f2⟩:=SC.tok_at (IsL.own HTQ.o) (i+1) (by omega);simp only[Option.some.injEq,Addr.mk.injEq,and_true]at he;obtain⟨rfl,rfl⟩:=he;obtain⟨b',off',he,_,g0,g1,g2⟩:=SC.tok_at (IsL.own HTQ.o) (i+2) hi2;simp only[Option.some.injEq,Addr.mk.injEq,and_true]at he;obtain⟨rfl,rfl⟩:=he;have HRS:=hd (PO.rules_step hi2);have hsz:=(HSM.o _ (List.getElem_mem hi2)).1
          have hP15:P.length≤15:=(by have:=HPI.o;omega);generalize T[i]'hil=ta at *;generalize T[i+1]'(by omega)=tb at *;generalize T[i+2]'hi2=tc at *;obtain⟨uq,ue,HUE⟩:∃uq ue,Hd (U.unquote tc.text=(uq,ue)):=⟨_,_,hd rfl⟩
          have CU:=hd (fun W:World=>by have h:=refunq_any tc.text W (by have:=HS.o;omega);rw[HUE.o]at h;unfold strR at h;exact h);simp only at CU;have HUQ:Hd (SC.uq tc=⟨uq.toArray⟩):=hd (by unfold SC.uq;rw[HUE.o]);have CO:=hd (fun W:World=>rpop_any tb.text W);obtain⟨on,HON⟩:∃on,Hd (PO.opN tb.text=on):=⟨_,hd rfl⟩
          rw[HON.o]at CO HRS;rw[HUQ.o]at HRS;generalize (⟨uq.toArray⟩:ByteArray)=ux at *;clear d0 d2 f0 f2 g0 g2 hsz;go_wp2_with fail
          refine(CU.o _).mono ?_;rintro e3 w3 ⟨rfl,hb3⟩;have k1:=(hb3.cell (p:=⟨b,off+i*3+1,none⟩) hbl).trans d1;have k2:=(hb3.cell (p:=⟨b,off+(i+1)*3+1,none⟩) hbl).trans f1;have HO3:=hd (own_below HOW.o hb3);have HB3:=hd (HBQ.o.trans (hb3.mono hwq));have HT3:=hd (own_below HTQ.o hb3);have hw3:=HB3.o.size;obtain⟨j,hj⟩:∃j,j=i+1:=⟨_,rfl⟩
          have hwp1:IntKind.i64.wrap ((i:Int)+1)=(j:Int):=(by rw[IntKind.wrap_i64];omega);have hjT:j<T.length:=(by omega);have hjI:(j:Int)<(T.length:Int):=(by omega);rw[←hj]at k2;have HJ:=hd hj;clear d1 f1 g1 hb3 CU HOW HBQ HTQ hj;go_wp2_with fail
          go_region_law (first
           |(refine step_app_lit 23 47 (.agg #[.string ⟨#[]⟩,.int .i64 0,.string ⟨#[]⟩]) 3 40 underlying23 info_matcher rfl (by decide) rfl (.tmp 97) (.tmp 112) rfl w.heap.size u9 P.length (PO.cellsM P) w3 #[.string ta.text,.int .i64 (on:Int),.string ux] 1 rfl rfl HO3.o rfl (by simp[Value.oneCell']) (by omega) (by omega) hw3 ?_;intro v4 w4 ho4 hg4)
           |(go_simp;go_at_call 28;refine(CO.o _).mono ?_;rintro e4 w5 ⟨rfl,rfl⟩))
          all_goals (
           have HO4:Hd (w4.ownsRow w.heap.size 47 3 v4 (P++[(⟨ta.text,on,ux⟩:PO.Mt)]).length (PO.cellsM (P++[(⟨ta.text,on,ux⟩:PO.Mt)]))):=hd (by rw[List.length_append,PO.cellsM_app];exact ho4);have HB4:=hd (bel_grown HB3.o hg4 (fun g h=>(HO3.o.lt g h).1));have HT4:=hd (own_kept HT3.o hg4 (own_type_ne HT3.o HO3.o (by decide)));have HRU4:Hd (PO.rules T=(P++[(⟨ta.text,on,ux⟩:PO.Mt)])++PO.rules (T.drop (i+4))):=hd (by rw[HRU.o,HRS.o];simp);have HPI4:Hd ((P++[(⟨ta.text,on,ux⟩:PO.Mt)]:List PO.Mt).length*4=i+4):=hd (by have:=HPI.o;simp;omega)
           have hP4:(P++[(⟨ta.text,on,ux⟩:PO.Mt)]:List PO.Mt).length≤16:=(by simp;omega);clear ho4 hg4 HRU HRS HPI HO3 HT3 HB3 k1 k2 hwp1 CO;go_wp2;go_roundw
           case rel=>exact⟨i+4,P++[(⟨ta.text,on,ux⟩:PO.Mt)],by omega,by have:=HPI4.o;omega,by go_num,hP4,HPI4,HRU4,HO4,HB4,HT4⟩
           case measure=>simp[intOf];omega)
         ·have hne:T.length≤i:=by omega
          have HRE:Hd (PO.rules T=P):=hd (by rw[HRU.o,PO.rules_end hne,List.append_nil]);clear HRU hne;go_wp2;go_ret3;exact(by rw[HP.o,HRD.o];exact⟨_,rfl,by show World.ownsRow _ _ _ _ _ (PO.rules T).length (PO.cellsM (PO.rules T));rw[HRE.o];exact HOW.o,HBQ.o⟩)
      ·have e3:¬ (T.length:Int)%4=3:=by omega
       have em3:((T.length:Int)%4!=3)=true:=by(rw[bne_iff_ne];exact e3)
       have HRD:=hd (PO.read_len (n:=s.size) HST.o HNO.o h3);clear e3 h3;go_wp2;go_ret3;exact PO.parse_nil (HP.o.trans HRD.o) HB.o
theorem rpparse_any (s:ByteArray)(w:World) :
  Calls prog 8 #[.string s] w fun e w'=>PO.ParseA w (PO.parse s) e w':=by
 by_cases h:s.size≤1024
 ·exact rpparse_go s w h
 ·have hsI:(1024:Int)<(s.size:Int):=by omega
  have HP:=hd (PO.parse_long (s:=s) (by omega));go_enter func8,ntmps8;go_wp2;go_ret3;exact PO.parse_nil HP.o (Below.refl _ _)
theorem PO.rules_len:∀T:List PO.Tk,(PO.rules T).length≤T.length
 |a::b::c::d::r=>by
  have h:=PO.rules_len r;show (_::PO.rules r).length≤_
  simp only[List.length_cons];omega
 |[a,b,c]=>by show 1≤3;decide
 |[]=>Nat.zero_le _
 |[a]=>Nat.zero_le _
 |[a,b]=>Nat.zero_le _
theorem PO.read_lenL (n:Nat)(T:List PO.Tk):(PO.read n T).l.length≤1024:=by
 unfold PO.read;split
 ·split<;>exact Nat.zero_le _
 ·split
  ·exact Nat.zero_le _
  ·split
   ·exact Nat.zero_le _
   ·split
    ·exact Nat.zero_le _
    ·have:=PO.rules_len T
     show (PO.rules T).length≤_
     omega
theorem PO.parse_len (s:ByteArray):(PO.parse s).l.length≤1024:=by
 unfold PO.parse;split
 ·exact Nat.zero_le _
 ·split
  ·exact Nat.zero_le _
  ·exact PO.read_lenL _ _
theorem awake25_any (w:World)(N:Nm2 w):Calls prog 6 #[] w fun e w'=>e=.returned (.bool true)∧Below w.heap.size w w':=by
 have HP:=hd (poparse_any PO.ab w N);rw[PO.ab_parse]at HP;unfold PO.ab at HP;clear N;go_enter func6,ntmps6;go_wp2_with fail
 refine HP.o.mono ?_;rintro e w1 ⟨v,rfl,ho,hb⟩;obtain⟨A,c,rfl⟩:=own_shape ho;have HL:=hd (IsL.own ho);have HB:=hd hb;clear ho hb HP;have HS:=hd (msame_any A (some ⟨w1.heap.size,0,none⟩) c 1 1 [⟨⟨#[97]⟩,1,⟨#[98]⟩⟩] _ (HL.o.below ((Below.refl w1.heap.size w1).alloc (Nat.le_refl _) (.cells #[.string ⟨#[97]⟩,.int .i64 1,.string ⟨#[98]⟩] 47))) (IsL.own (World.ownsRow_lit (base:=w1.heap.size) w1 #[.string ⟨#[97]⟩,.int .i64 1,.string ⟨#[98]⟩] 1 (Nat.le_refl _) (by decide) rfl)) rfl (by decide));go_wp2_with fail
 refine HS.o.mono ?_;rintro e w2 ⟨rfl,hb⟩;have HB2:=hd (bel ((HB.o.alloc HB.o.size _)) hb);clear hb HS;go_wp2;go_ret;exact⟨rfl,HB2.o⟩
theorem policyParses_walk (s:ByteArray)(w:World)(N:Nm2 w):Calls prog 3 #[.string s] w fun e w'=>e=.returned (.bool true)∧Below w.heap.size w w':=by
 have HN:=hd N;have HLEN:=hd (PO.parse_len s);clear N;go_enter func3,ntmps3;go_wp2_with fail
 refine(awake25_any w HN.o).mono ?_;rintro e w1 ⟨rfl,hb⟩;have HB:=hd hb;clear hb;have HP:=hd (poparse_any s w1 (HN.o.below HB.o));have HR:=hd (rpparse_any s);generalize PO.parse s=R at *;obtain⟨l,p,er⟩:=R;go_wp2_with fail
 refine HP.o.mono ?_;rintro e w2 ⟨v,rfl,ho,hb⟩;obtain⟨A,c,rfl⟩:=own_shape ho;have HL:=hd ho;have HB2:=hd (bel HB.o hb);clear ho hb HP HB;go_wp2_with fail
 refine(HR.o w2).mono ?_;rintro e w3 ⟨v,rfl,ho,hb⟩;obtain⟨B,d,rfl⟩:=own_shape ho;have HL3:=hd (IsL.own (own_below HL.o hb));have HR3:=hd (IsL.own ho);have HB3:=hd (bel HB2.o hb);clear ho hb HR HB2 HL HN;go_wp2_with fail
 refine(msame_any A B c d l.length l w3 HL3.o HR3.o rfl (by have h:l.length≤1024:=HLEN.o;omega)).mono ?_;rintro e w4 ⟨rfl,hb⟩;have HB4:=hd (bel HB3.o hb);clear hb HB3 HL3 HR3 HLEN;have hp:((p:Int)==(p:Int))=true:=(by simp);have he:(er==er)=true:=(by simp);go_wp2;go_ret;exact⟨rfl,HB4.o⟩
end Go.Proofs.YtieknenhfeejiaaGreatDoor
