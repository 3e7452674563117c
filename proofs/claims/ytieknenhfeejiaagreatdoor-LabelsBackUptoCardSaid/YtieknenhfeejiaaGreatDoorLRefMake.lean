/- The walks of labels.Get, of the reference's Get and named. The walks of cmp.C .. -/
import Derived.Deep.RegionHeld3
import Derived.Sort.Walk0
import Derived.Test.YtieknenhfeejiaaGreatDoorRTrk
set_option maxHeartbeats 2000000
set_option linter.unusedVariables false
set_option linter.unusedSimpArgs false
namespace Go.Proofs.YtieknenhfeejiaaGreatDoor
open _root_.Go.Proofs.Tryz
open Go.RowKit
namespace L
def get (n:ByteArray):List Lb→ByteArray
 |[]=>⟨#[]⟩
 |x::r=>if x.1=n then x.2 else get n r
def named (n:ByteArray):List Lb→Bool
 |[]=>false
 |x::r=>if x.1=n then true else named n r
theorem named_iff (n:ByteArray):∀l:List Lb,named n l=true↔∃x∈l,x.1=n
 |[]=>by simp[named]
 |x::r=>by
  unfold named;by_cases h:x.1=n
  ·simp[h]
  ·rw[if_neg h,named_iff n r];simp[h]
end L
theorem get_any (va:Value)(n:Nat)(l:List Lb)(a:ByteArray)(w:World)(hl:IsL 2 w va n (cellsL l))(hn:n≤8796093021952) :
  Calls prog 29 #[va,.string a] w fun e w'=>e=.returned (.string (L.get a l))∧Below w.heap.size w w':=by
 have hll:=IsLb.len hl;obtain⟨A,c,rfl⟩:=hl.shape;have HL:=hd hl;have HLL:=hd hll;clear hl hll;go_enter func29,ntmps29;go_wp2;go_loopw [9] (fun x wr=>∃k:Nat,k≤n∧x=.int .i64 k∧Hd (L.get a (l.drop k)=L.get a l)∧Hd (Below w.heap.size w wr)) (fun x _=>n-(intOf x).toNat)
 case atStart=>exact⟨0,Nat.zero_le _,rfl,hd rfl,hd (Below.refl _ _)⟩
 case round=>
  obtain⟨k,hk,rfl,hG,HB⟩:=hrel;have hzr:=HB.o.size;by_cases hlt:k<n
  ·have hkl:k<l.length:=by rw[HLL.o];exact hlt
   obtain⟨b,off,rfl,hbl,c1,c2⟩:=IsLb.at_ HL.o k hkl;have d1:=(HB.o.cell (p:=⟨b,off+k*2,none⟩) hbl).trans c1;have d2:=(HB.o.cell (p:=⟨b,off+k*2+1,none⟩) hbl).trans c2;have HDR:=hd (List.drop_eq_getElem_cons hkl);clear c1 c2;generalize l[k]'hkl=x at *;obtain⟨x1,x2⟩:=x;simp only at d1 d2;have HB1:=hd (HB.o.alloc hzr (.cells #[.string x1,.string x2] 35));by_cases hxa:x1=a
   ·have G:Hd (L.get a l=x2):=hd <|by rw[←hG.o,HDR.o,L.get,if_pos hxa]
    have he:(x1.toList==a.toList)=true:=(by rw[hxa];simp);clear hxa;go_wp2;go_ret;exact⟨ret_str G.o.symm,HB1.o⟩
   ·have G:Hd (L.get a (l.drop (k+1))=L.get a l):=hd <|by rw[←hG.o,HDR.o,L.get,if_neg hxa]
    have he:(x1.toList==a.toList)=false:=bytes_ne hxa;clear hxa;go_wp2;go_roundw
    case rel=>exact⟨k+1,by omega,by go_num,G,HB1⟩
    case measure=>simp[intOf];omega
  ·have G:Hd (L.get a l=⟨#[]⟩):=hd <|by rw[←hG.o,List.drop_eq_nil_of_le (by rw[HLL.o];omega)];rfl
   go_wp2;go_ret;exact⟨ret_str G.o.symm,HB.o⟩
theorem refGet_any (va:Value)(n:Nat)(l:List Lb)(a:ByteArray)(w:World)(hl:IsL 2 w va n (cellsL l))(hn:n≤8796093021952) :
  Calls prog 35 #[va,.string a] w fun e w'=>e=.returned (.string (L.get a l))∧Below w.heap.size w w':=by
 have hll:=IsLb.len hl;obtain⟨A,c,rfl⟩:=hl.shape;have HL:=hd hl;have HLL:=hd hll;clear hl hll;go_enter func35,ntmps35;go_wp2
 go_loop [5] (fun x=>∃k:Nat,k≤n∧x=.int .i64 k∧Hd (L.get a (l.drop k)=L.get a l)) (fun x=>n-(intOf x).toNat)
 case atStart=>exact⟨0,Nat.zero_le _,rfl,hd rfl⟩
 case round=>
  obtain⟨k,hk,rfl,hG⟩:=hrel;by_cases hlt:k<n
  ·have hkl:k<l.length:=by rw[HLL.o];exact hlt
   obtain⟨b,off,rfl,hbl,d1,d2⟩:=IsLb.at_ HL.o k hkl;have HDR:=hd (List.drop_eq_getElem_cons hkl);generalize l[k]'hkl=x at *;obtain⟨x1,x2⟩:=x;simp only at d1 d2;by_cases hxa:x1=a
   ·have G:Hd (L.get a l=x2):=hd <|by rw[←hG.o,HDR.o,L.get,if_pos hxa]
    have he:(x1.toList==a.toList)=true:=(by rw[hxa];simp);clear hxa;go_wp2;go_ret;exact⟨ret_str G.o.symm,Below.refl _ _⟩
   ·have G:Hd (L.get a (l.drop (k+1))=L.get a l):=hd <|by rw[←hG.o,HDR.o,L.get,if_neg hxa]
    have he:(x1.toList==a.toList)=false:=bytes_ne hxa;clear hxa;go_wp2
    go_round
    case rel=>exact⟨k+1,by omega,by go_num,G⟩
    case measure=>simp[intOf];omega
  ·have G:Hd (L.get a l=⟨#[]⟩):=hd <|by rw[←hG.o,List.drop_eq_nil_of_le (by rw[HLL.o];omega)];rfl
   go_wp2;go_ret;exact⟨ret_str G.o.symm,Below.refl _ _⟩
theorem named_any (va:Value)(n:Nat)(l:List Lb)(a:ByteArray)(w:World)(hl:IsL 2 w va n (cellsL l))(hn:n≤8796093021952) :
  Calls prog 74 #[va,.string a] w fun e w'=>e=.returned (.bool (L.named a l))∧w=w':=by
 have hll:=IsLb.len hl;obtain⟨A,c,rfl⟩:=hl.shape;have HL:=hd hl;have HLL:=hd hll;clear hl hll;go_enter func74,ntmps74;go_wp2
 go_loop [5] (fun x=>∃k:Nat,k≤n∧x=.int .i64 k∧Hd (L.named a (l.drop k)=L.named a l)) (fun x=>n-(intOf x).toNat)
 case atStart=>exact⟨0,Nat.zero_le _,rfl,hd rfl⟩
 case round=>
  obtain⟨k,hk,rfl,hG⟩:=hrel;by_cases hlt:k<n
  ·have hkl:k<l.length:=by rw[HLL.o];exact hlt
   obtain⟨b,off,rfl,hbl,d1,d2⟩:=IsLb.at_ HL.o k hkl;have HDR:=hd (List.drop_eq_getElem_cons hkl);generalize l[k]'hkl=x at *;obtain⟨x1,x2⟩:=x;simp only at d1 d2;by_cases hxa:x1=a
   ·have G:Hd (L.named a l=true):=hd <|by rw[←hG.o,HDR.o,L.named,if_pos hxa]
    have he:(x1.toList==a.toList)=true:=(by rw[hxa];simp);clear hxa;go_wp2;go_ret;exact⟨ret_bool G.o.symm,rfl⟩
   ·have G:Hd (L.named a (l.drop (k+1))=L.named a l):=hd <|by rw[←hG.o,HDR.o,L.named,if_neg hxa]
    have he:(x1.toList==a.toList)=false:=bytes_ne hxa;clear hxa;go_wp2
    go_round
    case rel=>exact⟨k+1,by omega,by go_num,G⟩
    case measure=>simp[intOf];omega
  ·have G:Hd (L.named a l=false):=hd <|by rw[←hG.o,List.drop_eq_nil_of_le (by rw[HLL.o];omega)];rfl
   go_wp2;go_ret;exact⟨ret_bool G.o.symm,rfl⟩
namespace L
def ord (a b:ByteArray):Int:=if Op.bytesLess a.toList b.toList=true then -1 else if (a.toList==b.toList)=true then 0 else 1
def cmp (x y:Lb):Int:=if ord x.1 y.1≠0 then ord x.1 y.1 else ord x.2 y.2
end L
theorem nan_any (a:ByteArray)(w:World):Calls prog 80 #[.string a] w fun e w'=>e=.returned (.bool false)∧w=w':=by
 go_enter func80,ntmps80;go_wp2;go_ret;exact⟨rfl,rfl⟩
theorem cmpS_any (a b:ByteArray)(w:World):Calls prog 48 #[.string a,.string b] w fun e w'=>e=.returned (.int .i64 (L.ord a b))∧w=w':=by
 cases h1:Op.bytesLess a.toList b.toList with
 |true=>
  have G:Hd (L.ord a b = -1):=hd <|by unfold L.ord;rw[if_pos h1]
  go_enter func48,ntmps48;go_wp2_with (go_at_call 80;refine(nan_any _ _).mono ?_;rintro e w' ⟨rfl,rfl⟩)
  go_ret;exact⟨ret_int G.o.symm,rfl⟩
 |false=>
  cases h2:(a.toList==b.toList) with
  |true=>
   have G:Hd (L.ord a b=0):=hd <|by unfold L.ord;rw[if_neg (by rw[h1];simp),if_pos h2]
   go_enter func48,ntmps48;go_wp2_with (go_at_call 80;refine(nan_any _ _).mono ?_;rintro e w' ⟨rfl,rfl⟩)
   go_ret;exact⟨ret_int G.o.symm,rfl⟩
  |false=>
   have G:Hd (L.ord a b=1):=hd <|by unfold L.ord;rw[if_neg (by rw[h1];simp),if_neg (by rw[h2];simp)]
   go_enter func48,ntmps48;go_wp2_with (go_at_call 80;refine(nan_any _ _).mono ?_;rintro e w' ⟨rfl,rfl⟩)
   go_ret;exact⟨ret_int G.o.symm,rfl⟩
end Go.Proofs.YtieknenhfeejiaaGreatDoor
namespace Go.Proofs.YtieknenhfeejiaaGreatDoor
open _root_.Go.Proofs.Tryz
namespace L
def lt (a b:ByteArray):Bool:=Op.bytesLess a.toList b.toList
theorem lt_iff (a b:ByteArray):lt a b=true↔a.toList<b.toList:=by
 unfold lt;rw[Proofs.bytesLess_eq];simp
theorem lt_irrefl (a:ByteArray):lt a a=false:=by
 rw[Bool.eq_false_iff];intro h;exact List.lt_irrefl _ ((lt_iff a a).1 h)
theorem lt_trans {a b c:ByteArray}(h:lt a b=true)(h2:lt b c=true):lt a c=true:=
 (lt_iff a c).2 (List.lt_trans ((lt_iff a b).1 h) ((lt_iff b c).1 h2))
theorem lt_tri {a b:ByteArray}(h:lt a b=false)(h2:lt b a=false):a=b:=by
 have h3:¬ a.toList<b.toList:=fun e=>by rw[(lt_iff a b).2 e]at h;cases h
 have h4:¬ b.toList<a.toList:=fun e=>by rw[(lt_iff b a).2 e]at h2;cases h2
 exact toList_inj.1 (List.le_antisymm (List.not_lt.1 h4) (List.not_lt.1 h3))
theorem lt_asymm {a b:ByteArray}(h:lt a b=true):lt b a=false:=by
 rw[Bool.eq_false_iff];intro h2;have:=lt_trans h h2;rw[lt_irrefl]at this;cases this
theorem lt_ne {a b:ByteArray}(h:lt a b=true):a≠b:=by rintro rfl;rw[lt_irrefl]at h;cases h
theorem lt_of_ne {a b:ByteArray}(h:a≠b)(h2:lt a b=false):lt b a=true:=by
 cases h3:lt b a with
 |true=>rfl
 |false=>exact absurd (lt_tri h2 h3) h
theorem gt_of_ne {a b:ByteArray}(h:a≠b):gt a b=lt b a:=by
 unfold gt;show (!lt a b)=lt b a
 cases h2:lt a b with
 |true=>rw[lt_asymm h2];rfl
 |false=>rw[lt_of_ne h h2];rfl
theorem ord_eq (a b:ByteArray):ord a b=if lt a b then -1 else if lt b a then 1 else 0:=by
 unfold ord;show (if lt a b=true then _ else _)=_
 cases h:lt a b with
 |true=>rfl
 |false=>
  simp only[Bool.false_eq_true,if_false];by_cases e:a=b
  ·subst e;rw[lt_irrefl];simp
  ·rw[lt_of_ne e h,if_neg (by rw[bytes_ne e];simp)];rfl
theorem ord_zero {a b:ByteArray}:ord a b=0↔a=b:=by
 rw[ord_eq]
 constructor
 ·intro h
  cases h1:lt a b with
  |true=>rw[h1]at h;simp at h
  |false=>
   cases h2:lt b a with
   |true=>rw[h1,h2]at h;simp at h
   |false=>exact lt_tri h1 h2
 ·rintro rfl;rw[lt_irrefl];rfl
theorem ord_lt {a b:ByteArray}:ord a b<0↔lt a b=true:=by
 rw[ord_eq];cases h1:lt a b with
 |true=>simp
 |false=>cases h2:lt b a<;>simp
theorem cmp_lt {x y:Lb}:cmp x y<0↔lt x.1 y.1=true∨(x.1=y.1∧lt x.2 y.2=true):=by
 unfold cmp;by_cases h1:ord x.1 y.1=0
 ·rw[if_neg (by simp[h1]),ord_lt]
  have e:=ord_zero.1 h1
  constructor
  ·intro h;exact .inr ⟨e,h⟩
  ·rintro (h|h)
   ·exact absurd e (lt_ne h)
   ·exact h.2
 ·rw[if_pos h1,ord_lt]
  constructor
  ·exact .inl
  ·rintro (h|h)
   ·exact h
   ·exact absurd (ord_zero.2 h.1) h1
def Srt (l:List Lb):Prop:=l.Pairwise fun x y=>lt x.1 y.1=true
theorem withGo_none (n v:ByteArray):∀(l:List Lb),(∀x∈l,x.1≠n)→withGo n v true l=l
 |[],_=>rfl
 |x::r,h=>by
  rw[withGo,if_neg (h x (List.mem_cons_self ..)),if_neg (by simp),withGo_none n v r fun y hy=>h y (List.mem_cons_of_mem _ hy)]
theorem withGo_new (n v:ByteArray):∀(l:List Lb),Srt l→(∀x∈l,x.1≠n)→(withGo n v false l).Perm ((n,v)::l)∧Srt (withGo n v false l)
 |[],_,_=>⟨List.Perm.refl _,List.pairwise_singleton ..⟩
 |x::r,hs,h=>by
  have hx:=h x (List.mem_cons_self ..);have hr:∀y∈r,y.1≠n:=fun y hy=>h y (List.mem_cons_of_mem _ hy)
  have hs':=List.pairwise_cons.1 hs;rw[withGo,if_neg hx,gt_of_ne hx];by_cases hg:lt n x.1=true
  ·rw[if_pos ⟨rfl,hg⟩,withGo_none n v r hr]
   refine⟨List.Perm.refl _,List.pairwise_cons.2 ⟨fun y hy=>?_,hs⟩⟩;rcases List.mem_cons.1 hy with rfl|hy
   ·exact hg
   ·exact lt_trans hg (hs'.1 y hy)
  ·rw[if_neg (fun e=>hg e.2)]
   obtain⟨p,s⟩:=withGo_new n v r hs'.2 hr;have hg':lt x.1 n=true:=lt_of_ne (Ne.symm hx) (by simpa using hg);refine⟨(List.Perm.cons x p).trans (List.Perm.swap ..),List.pairwise_cons.2 ⟨fun y hy=>?_,s⟩⟩;rcases List.mem_cons.1 (p.mem_iff.1 hy) with rfl|hy
   ·exact hg'
   ·exact hs'.1 y hy
def full (l:List Lb):List Lb:=l.filter fun p=>!p.2.toList.isEmpty
def mkFrom (acc l:List Lb):List Lb:=l.foldl (fun s p=>withL s p.1 p.2) acc
def mkL (l:List Lb):List Lb:=mkFrom [] l
theorem withL_new {l:List Lb}{p:Lb}(hs:Srt l)(h:∀x∈l,x.1≠p.1):(withL l p.1 p.2).Perm (full [p]++l)∧Srt (withL l p.1 p.2):=by
 unfold withL full;cases hv:p.2.toList.isEmpty with
 |true=>rw[withGo_none _ _ _ h];simp[hv];exact hs
 |false=>
  have:=withGo_new p.1 p.2 l hs h;simp[hv];exact this
theorem mkFrom_spec:∀(l acc:List Lb),Srt acc→(∀x∈acc,∀y∈l,x.1≠y.1)→l.Pairwise (fun x y=>x.1≠y.1)→(mkFrom acc l).Perm (acc++full l)∧Srt (mkFrom acc l)
 |[],acc,hs,_,_=>by simp[mkFrom,full];exact hs
 |p::r,acc,hs,hd,hp=>by
  have hp':=List.pairwise_cons.1 hp;obtain⟨q,s⟩:=withL_new (p:=p) hs fun x hx=>hd x hx p (List.mem_cons_self ..)
  have hin:∀x∈withL acc p.1 p.2,x=p∨x∈acc:=fun x hx=>by
   rcases List.mem_append.1 (q.mem_iff.1 hx) with h|h
   ·exact .inl (by unfold full at h;simpa using (List.mem_filter.1 h).1)
   ·exact .inr h
  obtain⟨q2,s2⟩:=mkFrom_spec r (withL acc p.1 p.2) s (fun x hx y hy=>by
   rcases hin x hx with rfl|hx
   ·exact hp'.1 y hy
   ·exact hd x hx y (List.mem_cons_of_mem _ hy)) hp'.2
  refine⟨?_,s2⟩;have e:full (p::r)=full [p]++full r:=(by unfold full;rw[←List.filter_append];rfl);rw[e];refine(show (mkFrom acc (p::r)).Perm _ from q2).trans ?_;refine(List.Perm.append_right (full r) q).trans ?_;rw[←List.append_assoc];exact List.Perm.append_right _ List.perm_append_comm
theorem mkL_spec (l:List Lb)(hp:l.Pairwise (fun x y=>x.1≠y.1)):(mkL l).Perm (full l)∧Srt (mkL l):=by
 have:=mkFrom_spec l [] List.Pairwise.nil (fun x hx=>by cases hx) hp;simpa[mkL] using this
theorem srt_ext {a b:List Lb}(ha:Srt a)(hb:Srt b)(h:a.Perm b):a=b:=
 List.Perm.eq_of_pairwise (le:=fun x y:Lb=>lt x.1 y.1=true) (fun x y _ _ h1 h2=>by have:=lt_asymm h1;rw[h2]at this;cases this) ha hb h
end L
end Go.Proofs.YtieknenhfeejiaaGreatDoor
namespace Go.Proofs.YtieknenhfeejiaaGreatDoor
open _root_.Go.Proofs.Tryz
open Go.RowKit
namespace L
def ok1 (x:Lb):Bool:=lab x.1 && !x.2.toList.isEmpty && U.valid x.2
def ahead (p:Option ByteArray)(n:ByteArray):Bool:=match p with|none=>true|some y=>lt y n
def vldP:Option ByteArray→List Lb→Bool
 |_,[]=>true
 |p,x::r=>ok1 x && ahead p x.1 && vldP (some x.1) r
def vld (l:List Lb):Bool:=vldP none l
def prev (l:List Lb)(k:Nat):Option ByteArray:=if k=0 then none else(l[k-1]?).map (·.1)
theorem vld_step (l:List Lb)(k:Nat)(h:k<l.length):vldP (prev l k) (l.drop k)=(ok1 (l[k]'h) && ahead (prev l k) (l[k]'h).1 && vldP (prev l (k+1)) (l.drop (k+1))):=by
 rw[List.drop_eq_getElem_cons h]
 conv=>lhs;unfold vldP
 have:prev l (k+1)=some (l[k]'h).1:=by
  unfold prev;rw[if_neg (by omega)];simp[List.getElem?_eq_getElem h]
 rw[this]
theorem vld_bad1 {l:List Lb}{k:Nat}(h:k<l.length)(hG:vldP (prev l k) (l.drop k)=vld l)(hb:ok1 (l[k]'h)=false):vld l=false:=by
 rw[←hG,vld_step l k h,hb];rfl
theorem vld_bad2 {l:List Lb}{k:Nat}(h:k<l.length)(hG:vldP (prev l k) (l.drop k)=vld l)(hb:ahead (prev l k) (l[k]'h).1=false):vld l=false:=by
 rw[←hG,vld_step l k h,hb];simp
theorem vld_next {l:List Lb}{k:Nat}(h:k<l.length)(hG:vldP (prev l k) (l.drop k)=vld l)(hb:ok1 (l[k]'h)=true)(hb2:ahead (prev l k) (l[k]'h).1=true):vldP (prev l (k+1)) (l.drop (k+1))=vld l:=by
 rw[←hG,vld_step l k h,hb,hb2];rfl
theorem prev_succ {l:List Lb}{j:Nat}(h:j<l.length)(n:ByteArray):ahead (prev l (j+1)) n=lt (l[j]'h).1 n:=by
 unfold prev;rw[if_neg (by omega)];simp[List.getElem?_eq_getElem h,ahead]
end L
theorem empty_of {s:ByteArray}(h:s.toList.isEmpty=true):s.toList=[]:=List.isEmpty_iff.1 h
theorem nonempty_of {s:ByteArray}(h:s.toList.isEmpty=false):¬ s.toList=[]:=by rw[←List.isEmpty_iff,h];simp
theorem vld_any (va:Value)(n:Nat)(l:List Lb)(w:World)(hl:IsL 2 w va n (cellsL l))(hn:n≤4398046510976)(hS:∀y∈l,y.1.size≤1125899906842624∧y.2.size≤1125899906842624) :
  Calls prog 19 #[va] w fun e w'=>e=.returned (.bool (L.vld l))∧Below w.heap.size w w':=by
 have hll:=IsLb.len hl;obtain⟨A,c,rfl⟩:=hl.shape;have HL:=hd hl;have HLL:=hd hll;have HS:=hd hS;clear hl hll hS;go_enter func19,ntmps19;go_wp2;go_loopw [7] (fun x wr=>∃k:Nat,k≤n∧x=.int .i64 k∧Hd (L.vldP (L.prev l k) (l.drop k)=L.vld l)∧Hd (Below w.heap.size w wr)) (fun x _=>n-(intOf x).toNat)
 case atStart=>exact⟨0,Nat.zero_le _,rfl,hd rfl,hd (Below.refl _ _)⟩
 case round=>
  obtain⟨k,hk,rfl,hG,HB⟩:=hrel;have hzr:=HB.o.size;by_cases hlt:k<n
  ·have hkl:k<l.length:=by rw[HLL.o];exact hlt
   obtain⟨b,off,rfl,hbl,c1,c2⟩:=IsLb.at_ HL.o k hkl;have d1:=(HB.o.cell (p:=⟨b,off+k*2,none⟩) hbl).trans c1;have d2:=(HB.o.cell (p:=⟨b,off+k*2+1,none⟩) hbl).trans c2;obtain⟨hs1,hs2⟩:=HS.o _ (List.getElem_mem hkl);have BAD1:=hd (fun h=>L.vld_bad1 hkl hG.o h);have BAD2:=hd (fun h=>L.vld_bad2 hkl hG.o h);have NEXT:=hd (fun h h2=>L.vld_next hkl hG.o h h2);have PREV:Hd (∀j,k=j+1→∃(h:j<l.length),∀m,L.ahead (L.prev l k) m=L.lt (l[j]'h).1 m):=hd fun j e=>by
    subst e;exact⟨by omega,fun m=>L.prev_succ _ m⟩
   have FIRST:Hd (k=0→∀m,L.ahead (L.prev l k) m=true):=hd fun e m=>by subst e;rfl
   clear c1 c2 hG;generalize l[k]'hkl=x at *;obtain⟨x1,x2⟩:=x;simp only at d1 d2 hs1 hs2 BAD1 BAD2 NEXT;obtain⟨W,hW⟩:∃W,W=wr.alloc (.cells #[.string x1,.string x2] 35):=⟨_,rfl⟩
   obtain⟨g,hg⟩:∃g,g=wr.heap.size:=⟨_,rfl⟩
   have e1:W.cell? ⟨g,0,none⟩=some (.string x1):=(by rw[hW,hg];simp);have e2:W.cell? ⟨g,1,none⟩=some (.string x2):=(by rw[hW,hg];simp);have HBW:Hd (Below w.heap.size w W):=hd (by rw[hW];exact HB.o.alloc hzr _);have HC:=hd (And.intro e1 e2);have HW:=hd hW;have HG:=hd hg;clear e1 e2 hW hg;cases h1:L.lab x1 with
   |false=>
    have C1:=hd (fun w'=>by have h:=isLabel_any x1 w' hs1;rw[h1]at h;exact h);have G:=hd (BAD1.o (by unfold L.ok1;rw[h1];rfl));clear h1 BAD1 BAD2 NEXT PREV FIRST;go_wp2_with fail
    rw[←HW.o,←HG.o];refine wp_region_below (by kernel_rfl) (by kernel_rfl) ?_;have f1:=fun p:BelW W=>p.cell (HC.o).1
    have f2:=fun p:BelW W=>p.cell (HC.o).2
    repeat (go_big_quiet_step (first|(go_at_call 44;exact Calls.below_same (C1.o _))))
    refine wpQuiet_nil ?_;rintro _ ⟨⟨w2,hb2⟩,rfl⟩;clear f1 f2;go_wp2;go_ret;exact⟨ret_bool G.o.symm,bel HBW.o hb2⟩
   |true=>
    have C1:=hd (fun w'=>by have h:=isLabel_any x1 w' hs1;rw[h1]at h;exact h);cases h2:x2.toList.isEmpty with
    |true=>
     have G:=hd (BAD1.o (by unfold L.ok1;rw[h1,h2];rfl));have hem:=empty_of h2;clear h1 BAD1 BAD2 NEXT PREV FIRST;go_wp2_with fail
     rw[←HW.o,←HG.o];refine wp_region_below (by kernel_rfl) (by kernel_rfl) ?_;have f1:=fun p:BelW W=>p.cell (HC.o).1
     have f2:=fun p:BelW W=>p.cell (HC.o).2
     repeat (go_big_quiet_step (first|(go_at_call 44;exact Calls.below_same (C1.o _))))
     refine wpQuiet_nil ?_;rintro _ ⟨⟨w2,hb2⟩,rfl⟩;clear f1 f2;go_wp2;go_ret;exact⟨ret_bool G.o.symm,bel HBW.o hb2⟩
    |false=>
     have hem:=nonempty_of h2;cases h3:U.valid x2 with
     |false=>
      have C3:=hd (fun w'=>by have h:=Valid_any x2 w' hs2;rw[h3]at h;exact h);have G:=hd (BAD1.o (by unfold L.ok1;rw[h1,h2,h3];rfl));clear h1 h3 BAD1 BAD2 NEXT PREV FIRST;go_wp2_with fail
      rw[←HW.o,←HG.o];refine wp_region_below (by kernel_rfl) (by kernel_rfl) ?_;have f1:=fun p:BelW W=>p.cell (HC.o).1
      have f2:=fun p:BelW W=>p.cell (HC.o).2
      repeat (go_big_quiet_step (first|(go_at_call 44;exact Calls.below_same (C1.o _))|(go_at_call 45;exact Calls.below_of (C3.o _))))
      refine wpQuiet_nil ?_;rintro _ ⟨⟨w2,hb2⟩,rfl⟩;clear f1 f2;go_wp2;go_ret;exact⟨ret_bool G.o.symm,bel HBW.o hb2⟩
     |true=>
      have C3:=hd (fun w'=>by have h:=Valid_any x2 w' hs2;rw[h3]at h;exact h);have OK:Hd (L.ok1 (x1,x2)=true):=hd (by unfold L.ok1;rw[h1,h2,h3];rfl);clear h1 h3 BAD1;by_cases hk0:k=0
      ·have G:=hd (NEXT.o OK.o (FIRST.o hk0 _))
       have ed:decide (0<k)=false:=(by simp;omega);have ek:k≤0:=(by omega);clear BAD2 NEXT PREV FIRST hk0;go_wp2_with fail
       rw[←HW.o,←HG.o];refine wp_region_below (by kernel_rfl) (by kernel_rfl) ?_;have f1:=fun p:BelW W=>p.cell (HC.o).1
       have f2:=fun p:BelW W=>p.cell (HC.o).2
       repeat (go_big_quiet_step (first|(go_at_call 44;exact Calls.below_same (C1.o _))|(go_at_call 45;exact Calls.below_of (C3.o _))))
       refine wpQuiet_nil ?_;rintro _ ⟨⟨w2,hb2⟩,rfl⟩;clear f1 f2;have HB2:=hd (bel HBW.o hb2);clear hb2;go_wp2;go_roundw
       case rel=>exact⟨k+1,by omega,by go_num,G,HB2⟩
       case measure=>simp[intOf];omega
      ·obtain⟨j,rfl⟩:∃j,k=j+1:=⟨k-1,by omega⟩
       obtain⟨hj,hp⟩:=PREV.o j rfl;obtain⟨b',off',he,_,c3,_⟩:=IsLb.at_ HL.o j hj;obtain⟨rfl,rfl⟩:b=b'∧off=off':=by simpa using he
       have c4:=(HBW.o.cell (p:=⟨b,off+j*2,none⟩) hbl).trans c3;have hbW:b<W.heap.size:=Nat.lt_of_lt_of_le hbl HBW.o.size;have HPX:=hd (hp x1);generalize (l[j]'hj).1=y at *;clear hp he c3 PREV FIRST hk0;have hj0:(0:Int)≤(j:Int):=(by omega);have hj1:(j:Int)<(n:Int):=(by omega);cases h4:Op.bytesLess y.toList x1.toList with
       |true=>
        have G:=hd (NEXT.o OK.o (by rw[HPX.o];exact h4));clear BAD2 NEXT;go_wp2_with fail
        rw[←HW.o,←HG.o];refine wp_region_below (by kernel_rfl) (by kernel_rfl) ?_;have f1:=fun p:BelW W=>p.cell (HC.o).1
        have f2:=fun p:BelW W=>p.cell (HC.o).2
        have f3:=fun p:BelW W=>p.cell c4
        repeat (go_big_quiet_step (first|(go_at_call 44;exact Calls.below_same (C1.o _))|(go_at_call 45;exact Calls.below_of (C3.o _))))
        refine wpQuiet_nil ?_;rintro _ ⟨⟨w2,hb2⟩,rfl⟩;clear f1 f2;have HB2:=hd (bel HBW.o hb2);clear hb2;go_wp2;go_roundw
        case rel=>exact⟨j+1+1,by omega,by go_num,G,HB2⟩
        case measure=>simp[intOf];omega
       |false=>
        have G:=hd (BAD2.o (by rw[HPX.o];exact h4));clear BAD2 NEXT;go_wp2_with fail
        rw[←HW.o,←HG.o];refine wp_region_below (by kernel_rfl) (by kernel_rfl) ?_;have f1:=fun p:BelW W=>p.cell (HC.o).1
        have f2:=fun p:BelW W=>p.cell (HC.o).2
        have f3:=fun p:BelW W=>p.cell c4
        repeat (go_big_quiet_step (first|(go_at_call 44;exact Calls.below_same (C1.o _))|(go_at_call 45;exact Calls.below_of (C3.o _))))
        refine wpQuiet_nil ?_;rintro _ ⟨⟨w2,hb2⟩,rfl⟩;clear f1 f2;go_wp2;go_ret;exact⟨ret_bool G.o.symm,bel HBW.o hb2⟩
  ·have G:Hd (L.vld l=true):=hd <|by rw[←hG.o,List.drop_eq_nil_of_le (by rw[HLL.o];omega)];rfl
   go_wp2;go_ret;exact⟨ret_bool G.o.symm,HB.o⟩
theorem refVld_any (va:Value)(n:Nat)(l:List Lb)(w:World)(hl:IsL 2 w va n (cellsL l))(hn:n≤4398046510976)(hS:∀y∈l,y.1.size≤1125899906842624∧y.2.size≤1125899906842624) :
  Calls prog 34 #[va] w fun e w'=>e=.returned (.bool (L.vld l))∧Below w.heap.size w w':=by
 have hll:=IsLb.len hl;obtain⟨A,c,rfl⟩:=hl.shape;have HL:=hd hl;have HLL:=hd hll;have HS:=hd hS;clear hl hll hS;go_enter func34,ntmps34;go_wp2;go_loopw [3] (fun x wr=>∃k:Nat,k≤n∧x=.int .i64 k∧Hd (L.vldP (L.prev l k) (l.drop k)=L.vld l)∧Hd (Below w.heap.size w wr)) (fun x _=>n-(intOf x).toNat)
 case atStart=>exact⟨0,Nat.zero_le _,rfl,hd rfl,hd (Below.refl _ _)⟩
 case round=>
  obtain⟨k,hk,rfl,hG,HB⟩:=hrel;by_cases hlt:k<n
  ·have hkl:k<l.length:=by rw[HLL.o];exact hlt
   obtain⟨b,off,rfl,hbl,c1,c2⟩:=IsLb.at_ HL.o k hkl;have d1:=(HB.o.cell (p:=⟨b,off+k*2,none⟩) hbl).trans c1;have d2:=(HB.o.cell (p:=⟨b,off+k*2+1,none⟩) hbl).trans c2;obtain⟨hs1,hs2⟩:=HS.o _ (List.getElem_mem hkl);have BAD1:=hd (fun h=>L.vld_bad1 hkl hG.o h);have BAD2:=hd (fun h=>L.vld_bad2 hkl hG.o h);have NEXT:=hd (fun h h2=>L.vld_next hkl hG.o h h2);have PREV:Hd (∀j,k=j+1→∃(h:j<l.length),∀m,L.ahead (L.prev l k) m=L.lt (l[j]'h).1 m):=hd fun j e=>by
    subst e;exact⟨by omega,fun m=>L.prev_succ _ m⟩
   have FIRST:Hd (k=0→∀m,L.ahead (L.prev l k) m=true):=hd fun e m=>by subst e;rfl
   clear hG;generalize l[k]'hkl=x at *;obtain⟨x1,x2⟩:=x;simp only at d1 d2 hs1 hs2 BAD1 BAD2 NEXT c1 c2;have HC1:=hd c1;clear c1 c2;cases h1:L.lab x1 with
   |false=>
    have C1:=hd (fun w'=>by have h:=refIsLabel_any x1 w' hs1;rw[h1]at h;exact h);have G:=hd (BAD1.o (by unfold L.ok1;rw[h1];rfl));clear h1 BAD1 BAD2 NEXT PREV FIRST;go_wp2_with (first|(go_at_call 72;refine(C1.o _).mono ?_;rintro e w' ⟨rfl,rfl⟩))
    go_ret;exact⟨ret_bool G.o.symm,HB.o⟩
   |true=>
    have C1:=hd (fun w'=>by have h:=refIsLabel_any x1 w' hs1;rw[h1]at h;exact h);cases h2:x2.toList.isEmpty with
    |true=>
     have G:=hd (BAD1.o (by unfold L.ok1;rw[h1,h2];rfl));have hem:=empty_of h2;clear h1 BAD1 BAD2 NEXT PREV FIRST;go_wp2_with (first|(go_at_call 72;refine(C1.o _).mono ?_;rintro e w' ⟨rfl,rfl⟩))
     go_ret;exact⟨ret_bool G.o.symm,HB.o⟩
    |false=>
     have hem:=nonempty_of h2;cases h3:U.valid x2 with
     |false=>
      have C3:=hd (fun w'=>by have h:=refValid_any x2 w' hs2;rw[h3]at h;exact h);have G:=hd (BAD1.o (by unfold L.ok1;rw[h1,h2,h3];rfl));clear h1 h3 BAD1 BAD2 NEXT PREV FIRST;go_wp2_with (first|(go_at_call 72;refine(C1.o _).mono ?_;rintro e w' ⟨rfl,rfl⟩)|(go_at_call 65;refine(C3.o _).mono ?_;rintro e w2 ⟨rfl,hb⟩;have HB2:=hd (bel HB.o hb);clear hb;have f1:=(HB2.o.cell (p:=⟨b,off+k*2,none⟩) hbl).trans HC1.o))
      go_ret;exact⟨ret_bool G.o.symm,HB2.o⟩
     |true=>
      have C3:=hd (fun w'=>by have h:=refValid_any x2 w' hs2;rw[h3]at h;exact h);have OK:Hd (L.ok1 (x1,x2)=true):=hd (by unfold L.ok1;rw[h1,h2,h3];rfl);clear h1 h3 BAD1;by_cases hk0:k=0
      ·have G:=hd (NEXT.o OK.o (FIRST.o hk0 _))
       have ed:decide (0<k)=false:=(by simp;omega);have ek:k≤0:=(by omega);clear BAD2 NEXT PREV FIRST hk0;go_wp2_with (first|(go_at_call 72;refine(C1.o _).mono ?_;rintro e w' ⟨rfl,rfl⟩)|(go_at_call 65;refine(C3.o _).mono ?_;rintro e w2 ⟨rfl,hb⟩;have HB2:=hd (bel HB.o hb);clear hb;have f1:=(HB2.o.cell (p:=⟨b,off+k*2,none⟩) hbl).trans HC1.o))
       go_quiet (fail)
       go_wp2;go_roundw
       case rel=>exact⟨k+1,by omega,by go_num,G,hd (bel_drew HB2.o _)⟩
       case measure=>simp[intOf];omega
      ·obtain⟨j,rfl⟩:∃j,k=j+1:=⟨k-1,by omega⟩
       obtain⟨hj,hp⟩:=PREV.o j rfl;obtain⟨b',off',he,_,c3,_⟩:=IsLb.at_ HL.o j hj;obtain⟨rfl,rfl⟩:b=b'∧off=off':=by simpa using he
       have HPX:=hd (hp x1);generalize (l[j]'hj).1=y at *;have HC3:=hd c3;clear hp he c3 PREV FIRST hk0;have hj0:(0:Int)≤(j:Int):=(by omega);have hj1:(j:Int)<(n:Int):=(by omega);have hj2:(0:Int)≤(j:Int)+1:=(by omega);have hj3:(j:Int)+1<(n:Int):=(by omega);have hj4:((j:Int)+1).toNat=j+1:=(by omega);cases h4:Op.bytesLess y.toList x1.toList with
       |true=>
        have G:=hd (NEXT.o OK.o (by rw[HPX.o];exact h4));clear BAD2 NEXT;go_wp2_with (first|(go_at_call 72;refine(C1.o _).mono ?_;rintro e w' ⟨rfl,rfl⟩)|(go_at_call 65;refine(C3.o _).mono ?_;rintro e w2 ⟨rfl,hb⟩;have HB2:=hd (bel HB.o hb);clear hb;have f1:=(HB2.o.cell (p:=⟨b,off+(j+1)*2,none⟩) hbl).trans HC1.o;have f3:=(HB2.o.cell (p:=⟨b,off+j*2,none⟩) hbl).trans HC3.o))
        go_quiet (fail)
        go_wp2;go_roundw
        case rel=>exact⟨j+1+1,by omega,by go_num,G,hd (bel_drew HB2.o _)⟩
        case measure=>simp[intOf];omega
       |false=>
        have G:=hd (BAD2.o (by rw[HPX.o];exact h4));clear BAD2 NEXT;go_wp2_with (first|(go_at_call 72;refine(C1.o _).mono ?_;rintro e w' ⟨rfl,rfl⟩)|(go_at_call 65;refine(C3.o _).mono ?_;rintro e w2 ⟨rfl,hb⟩;have HB2:=hd (bel HB.o hb);clear hb;have f1:=(HB2.o.cell (p:=⟨b,off+(j+1)*2,none⟩) hbl).trans HC1.o;have f3:=(HB2.o.cell (p:=⟨b,off+j*2,none⟩) hbl).trans HC3.o))
        go_quiet (fail)
        go_wp2;go_ret;exact⟨ret_bool G.o.symm,bel_drew HB2.o _⟩
  ·have G:Hd (L.vld l=true):=hd <|by rw[←hG.o,List.drop_eq_nil_of_le (by rw[HLL.o];omega)];rfl
   go_wp2;go_ret;exact⟨ret_bool G.o.symm,HB.o⟩
theorem refWith_any (va:Value)(n:Nat)(l:List Lb)(a v:ByteArray)(w:World)(hl:IsL 2 w va n (cellsL l))(hn:n≤4398046510976) :
  Calls prog 37 #[va,.string a,.string v] w fun e w'=>∃x,e=.returned x∧w'.ownsRow w.heap.size 35 2 x (L.withL l a v).length (cellsL (L.withL l a v))∧Below w.heap.size w w':=by
 have hll:=IsLb.len hl;obtain⟨A,c,rfl⟩:=hl.shape;have HL:=hd hl;have HLL:=hd hll;clear hl hll;go_enter func37,ntmps37;go_wp2;go_loopw [7,8,9] (fun o p x wr=>∃(k:Nat) (O:List Lb) (put:Bool),k≤n∧x=.int .i64 k∧p=.bool put∧wr.ownsRow w.heap.size 35 2 o O.length (cellsL O)∧Below w.heap.size w wr∧O.length≤k+1∧Hd (put=false→O.length≤k)∧Hd (O++L.withGo a v put (l.drop k)=L.withL l a v)) (fun _ _ x _=>n-(intOf x).toNat)
 case atStart=>exact⟨0,[],v.toList.isEmpty,Nat.zero_le _,rfl,rfl,World.ownsRow_nil _ _ _ _,Below.refl _ _,by simp,hd (fun _=>Nat.zero_le _),hd rfl⟩
 case round=>
  obtain⟨k,O,put,hk,rfl,rfl,how,hbw,hlen,hpl,hG⟩:=hrel;have hzr:=hbw.size;by_cases hlt:k<n
  ·have hkl:k<l.length:=by rw[HLL.o];exact hlt
   obtain⟨b,off,rfl,hbl,c1,c2⟩:=IsLb.at_ HL.o k hkl;have d1:=(hbw.cell (p:=⟨b,off+k*2,none⟩) hbl).trans c1;have d2:=(hbw.cell (p:=⟨b,off+k*2+1,none⟩) hbl).trans c2;have hdr:l.drop k=l[k]::l.drop (k+1):=List.drop_eq_getElem_cons hkl;have HDR:=hd hdr;have C1:=hd c1;have C2:=hd c2;clear c1 c2 hdr;generalize l[k]'hkl=x at *;obtain⟨x1,x2⟩:=x;simp only at d1 d2 C1 C2;have HBW:=hd hbw;have HO:=hd how;clear hbw how;by_cases hxa:x1=a
   ·have G:Hd (O++L.withGo a v put (l.drop (k+1))=L.withL l a v):=hd <|by
     rw[←hG.o,HDR.o,L.withGo,if_pos hxa]
    have he:(x1.toList==a.toList)=true:=(by rw[hxa];simp);clear hxa;go_wp2;go_roundw
    case rel=>exact⟨k+1,O,put,by omega,by go_num,rfl,HO.o,HBW.o,by omega,hd (fun h=>by have:=hpl.o h;omega),G⟩
    case measure=>simp[intOf];omega
   ·have he:(x1.toList==a.toList)=false:=bytes_ne hxa
    have HXA:=hd hxa;clear hxa;cases hgt:Op.bytesLess x1.toList a.toList with
    |true=>
     have G:Hd (L.withGo a v put ((x1,x2)::l.drop (k+1))=(x1,x2)::L.withGo a v put (l.drop (k+1))):=hd <|by
      rw[L.withGo,if_neg HXA.o,if_neg (by unfold L.gt;rw[hgt];simp)]
     cases put with
     |true=>
      go_wp2_with (at_builtin;refine wpList_app_litH 36 35 (.agg #[.string ⟨#[]⟩,.string ⟨#[]⟩]) 2 32 underlying36 info_label rfl (by decide) rfl _ _ rfl w.heap.size u7 O.length (cellsL O) _ #[.string x1,.string x2] 1 _ rfl rfl rfl (HO.o) rfl (by simp[Value.oneCell']) (by omega) (by omega) (by first|omega|(simp;omega)) ?_)
      intro v3 w3 ho3 hg3;have HB3:=hd (bel_grown HBW.o hg3 (fun g h=>(HO.o.lt g h).1));have HO3:Hd (w3.ownsRow w.heap.size 35 2 v3 (O++[(x1,x2)]).length (cellsL (O++[(x1,x2)]))):=hd <|by
       rw[cellsL_app,List.length_append];simpa[cellsL] using ho3
      clear hg3 ho3;go_wp2;go_roundw
      case rel=>exact⟨k+1,_,true,by omega,by go_num,rfl,HO3.o,HB3.o,by simp;omega,hd (fun h=>by cases h),hd (by rw[←hG.o,HDR.o,G.o];simp)⟩
      case measure=>simp[intOf];omega
     |false=>
      have hp0:=hpl.o rfl;go_wp2_with (at_builtin;refine wpList_app_litH 36 35 (.agg #[.string ⟨#[]⟩,.string ⟨#[]⟩]) 2 32 underlying36 info_label rfl (by decide) rfl _ _ rfl w.heap.size u7 O.length (cellsL O) _ #[.string x1,.string x2] 1 _ rfl rfl rfl (HO.o) rfl (by simp[Value.oneCell']) (by omega) (by omega) (by first|omega|(simp;omega)) ?_)
      intro v3 w3 ho3 hg3;have HB3:=hd (bel_grown HBW.o hg3 (fun g h=>(HO.o.lt g h).1));have HO3:Hd (w3.ownsRow w.heap.size 35 2 v3 (O++[(x1,x2)]).length (cellsL (O++[(x1,x2)]))):=hd <|by
       rw[cellsL_app,List.length_append];simpa[cellsL] using ho3
      clear hg3 ho3;go_wp2;go_roundw
      case rel=>exact⟨k+1,_,false,by omega,by go_num,rfl,HO3.o,HB3.o,by simp;omega,hd (fun h=>by simp;omega),hd (by rw[←hG.o,HDR.o,G.o];simp)⟩
      case measure=>simp[intOf];omega
    |false=>
     cases put with
     |true=>
      have G:Hd (L.withGo a v true ((x1,x2)::l.drop (k+1))=(x1,x2)::L.withGo a v true (l.drop (k+1))):=hd <|by
       rw[L.withGo,if_neg HXA.o,if_neg (by simp)]
      go_wp2_with (at_builtin;refine wpList_app_litH 36 35 (.agg #[.string ⟨#[]⟩,.string ⟨#[]⟩]) 2 32 underlying36 info_label rfl (by decide) rfl _ _ rfl w.heap.size u7 O.length (cellsL O) _ #[.string x1,.string x2] 1 _ rfl rfl rfl (HO.o) rfl (by simp[Value.oneCell']) (by omega) (by omega) (by first|omega|(simp;omega)) ?_)
      intro v3 w3 ho3 hg3;have HB3:=hd (bel_grown HBW.o hg3 (fun g h=>(HO.o.lt g h).1));have HO3:Hd (w3.ownsRow w.heap.size 35 2 v3 (O++[(x1,x2)]).length (cellsL (O++[(x1,x2)]))):=hd <|by
       rw[cellsL_app,List.length_append];simpa[cellsL] using ho3
      clear hg3 ho3;go_wp2;go_roundw
      case rel=>exact⟨k+1,_,true,by omega,by go_num,rfl,HO3.o,HB3.o,by simp;omega,hd (fun h=>by cases h),hd (by rw[←hG.o,HDR.o,G.o];simp)⟩
      case measure=>simp[intOf];omega
     |false=>
      have G:Hd (L.withGo a v false ((x1,x2)::l.drop (k+1))=(a,v)::(x1,x2)::L.withGo a v true (l.drop (k+1))):=hd <|by
       rw[L.withGo,if_neg HXA.o,if_pos (by unfold L.gt;rw[hgt];simp)]
      have hp0:=hpl.o rfl;go_wp2_with (at_builtin;refine wpList_app_litH 36 35 (.agg #[.string ⟨#[]⟩,.string ⟨#[]⟩]) 2 32 underlying36 info_label rfl (by decide) rfl _ _ rfl w.heap.size u7 O.length (cellsL O) _ #[.string a,.string v] 1 _ rfl rfl rfl (HO.o) rfl (by simp[Value.oneCell']) (by omega) (by omega) (by first|omega|(simp;omega)) ?_)
      intro v3 w3 ho3 hg3;have HB3:=hd (bel_grown HBW.o hg3 (fun g h=>(HO.o.lt g h).1));have hz3:=HB3.o.size;have e1:=(HB3.o.cell (p:=⟨b,off+k*2,none⟩) hbl).trans C1.o;have e2:=(HB3.o.cell (p:=⟨b,off+k*2+1,none⟩) hbl).trans C2.o;have HO3:=hd ho3;clear hg3 ho3
      go_wp2_with (at_builtin;refine wpList_app_litH 36 35 (.agg #[.string ⟨#[]⟩,.string ⟨#[]⟩]) 2 32 underlying36 info_label rfl (by decide) rfl _ _ rfl w.heap.size v3 (O.length+1) (cellsL O++[.string a,.string v]) _ #[.string x1,.string x2] 1 _ rfl rfl rfl (HO3.o) rfl (by simp[Value.oneCell']) (by omega) (by omega) (by first|omega|(simp;omega)) ?_)
      intro v4 w4 ho4 hg4;have HB4:=hd (bel_grown HB3.o hg4 (fun g h=>(HO3.o.lt g h).1));have HO4:Hd (w4.ownsRow w.heap.size 35 2 v4 (O++[(a,v),(x1,x2)]).length (cellsL (O++[(a,v),(x1,x2)]))):=hd <|by
       rw[cellsL_app,List.length_append];simpa[cellsL] using ho4
      clear hg4 ho4;go_wp2;go_roundw
      case rel=>exact⟨k+1,_,true,by omega,by go_num,rfl,HO4.o,HB4.o,by simp;omega,hd (fun h=>by cases h),hd (by rw[←hG.o,HDR.o,G.o];simp)⟩
      case measure=>simp[intOf];omega
  ·have hkn:k=n:=by omega
   have hd0:l.drop k=[]:=List.drop_eq_nil_of_le (by rw[HLL.o];omega);have HD:=hd hd0;clear hd0;cases put with
   |true=>
    have G:Hd (O=L.withL l a v):=hd <|by rw[←hG.o,HD.o,L.withGo];simp
    go_wp2;go_ret;exact⟨_,rfl,by rw[←G.o];exact how,hbw⟩
   |false=>
    have G:Hd (O++[(a,v)]=L.withL l a v):=hd <|by rw[←hG.o,HD.o,L.withGo];simp
    have hp0:=hpl.o rfl;have HO:=hd how;clear how;go_wp2_with (at_builtin;refine wpList_app_litH 36 35 (.agg #[.string ⟨#[]⟩,.string ⟨#[]⟩]) 2 32 underlying36 info_label rfl (by decide) rfl _ _ rfl w.heap.size u7 O.length (cellsL O) _ #[.string a,.string v] 1 _ rfl rfl rfl (HO.o) rfl (by simp[Value.oneCell']) (by omega) (by omega) (by first|omega|(simp;omega)) ?_)
    intro v4 w4 ho4 hg4;have HB4:=hd (bel_grown hbw hg4 (fun g h=>(HO.o.lt g h).1));have HO4:Hd (w4.ownsRow w.heap.size 35 2 v4 (O++[(a,v)]).length (cellsL (O++[(a,v)]))):=hd <|by
     rw[cellsL_app,List.length_append];simpa[cellsL] using ho4
    rw[G.o]at HO4;clear hg4 ho4;go_wp2;go_ret;exact⟨_,rfl,HO4.o,HB4.o⟩
namespace L
def mkErrP:List Lb→List Lb→Int
 |_,[]=>0
 |b,x::r=>if lab x.1 && !named x.1 b then(if U.valid x.2 then mkErrP (b++[x]) r else 4) else 160
def mkErr (l:List Lb):Int:=mkErrP [] l
def made (l:List Lb):List Lb:=if mkErr l=0 then mkL l else []
theorem mkL_snoc (l:List Lb)(x:Lb):mkL (l++[x])=withL (mkL l) x.1 x.2:=by
 unfold mkL mkFrom;rw[List.foldl_append];rfl
theorem mkFrom_len:∀(l acc:List Lb),(mkFrom acc l).length≤acc.length+l.length
 |[],acc=>by simp[mkFrom]
 |x::l,acc=>by
  have h:=mkFrom_len l (withL acc x.1 x.2);have h2:=withGo_len x.1 x.2 acc x.2.toList.isEmpty;show (mkFrom (withL acc x.1 x.2) l).length≤_
  unfold withL at h ⊢;simp;omega
theorem mkL_len (l:List Lb):(mkL l).length≤l.length:=by
 have:=mkFrom_len l [];simpa[mkL] using this
theorem mkErrP_step (l:List Lb)(k:Nat)(h:k<l.length):mkErrP (l.take k) (l.drop k) =
  if lab (l[k]'h).1 && !named (l[k]'h).1 (l.take k) then(if U.valid (l[k]'h).2 then mkErrP (l.take (k+1)) (l.drop (k+1)) else 4) else 160:=by
 rw[List.drop_eq_getElem_cons h,List.take_succ_eq_append_getElem h]
 conv=>lhs;unfold mkErrP
end L
theorem cellsL_takeIs {w:World}{A:Option Addr}{n c:Nat}{l:List Lb}(h:IsL 2 w (.slice A n c) n (cellsL l))(k:Nat)(hk:k≤n):IsL 2 w (.slice A k c) k (cellsL (l.take k)):=by
 have hl:=IsLb.len h;obtain⟨h1,A',c',e,r⟩:=h;simp only[Value.slice.injEq,true_and]at e;obtain⟨rfl,rfl⟩:=e;refine⟨by rw[cellsL_len,List.length_take,Nat.min_eq_left (by omega)],A,c,rfl,fun i hi=>?_⟩;have hi2:i<(cellsL l).length:=(by rw[cellsL_len]at hi ⊢;rw[List.length_take]at hi;omega);obtain⟨b,off,rfl,hc⟩:=r i hi2;refine⟨b,off,rfl,?_⟩;rw[hc];have:(cellsL (l.take k))[i]'hi=(cellsL l)[i]'hi2:=by
  simp only[←cellsL_take];rw[List.getElem_take]
 rw[this]
theorem ret_mk {x:Value}{a b:Int}(h:a=b):Ending.returned (.tuple #[x,.int .i64 a])=.returned (.tuple #[x,.int .i64 b]):=by rw[h]
theorem refMake_any (A:Option Addr)(n c:Nat)(l:List Lb)(w:World)(hl:IsL 2 w (.slice A n c) n (cellsL l))(hnc:n≤c)(hn:n≤4398046510976)(hS:∀y∈l,y.1.size≤1125899906842624∧y.2.size≤1125899906842624) :
  Calls prog 39 #[.slice A n c] w fun e w'=>∃x,e=.returned (.tuple #[x,.int .i64 (L.mkErr l)])∧w'.ownsRow w.heap.size 35 2 x (L.made l).length (cellsL (L.made l))∧Below w.heap.size w w':=by
 have hll:=IsLb.len hl;have HL:=hd hl;have HLL:=hd hll;have HS:=hd hS;clear hl hll hS;go_enter func39,ntmps39;go_wp2;go_loopw [4,5] (fun o x wr=>∃k:Nat,k≤n∧x=.int .i64 k∧Hd (wr.ownsRow w.heap.size 35 2 o (L.mkL (l.take k)).length (cellsL (L.mkL (l.take k))))∧Hd (L.mkErrP (l.take k) (l.drop k)=L.mkErr l)∧Hd (Below w.heap.size w wr)) (fun _ x _=>n-(intOf x).toNat)
 case atStart=>exact⟨0,Nat.zero_le _,rfl,hd (by simpa[L.mkL,L.mkFrom,cellsL] using World.ownsRow_nil w w.heap.size 35 2),hd rfl,hd (Below.refl _ _)⟩
 case round=>
  obtain⟨k,hk,rfl,HO,hG,HB⟩:=hrel;have hzr:=HB.o.size;by_cases hlt:k<n
  ·have hkl:k<l.length:=by rw[HLL.o];exact hlt
   obtain⟨b,off,rfl,hbl,c1,c2⟩:=IsLb.at_ HL.o k hkl;have d1:=(HB.o.cell (p:=⟨b,off+k*2,none⟩) hbl).trans c1;have d2:=(HB.o.cell (p:=⟨b,off+k*2+1,none⟩) hbl).trans c2;obtain⟨hs1,hs2⟩:=HS.o _ (List.getElem_mem hkl);have HST:=hd (hG.o.symm.trans (L.mkErrP_step l k hkl));have HMK:Hd (L.mkL (l.take (k+1))=L.withL (L.mkL (l.take k)) (l[k]'hkl).1 (l[k]'hkl).2):=hd (by rw[List.take_succ_eq_append_getElem hkl,L.mkL_snoc]);have HT:=hd (cellsL_takeIs HL.o k hk);have hpl:(L.mkL (l.take k)).length≤k:=Nat.le_trans (L.mkL_len _) (List.length_take_le _ _);clear c1 c2 hG;generalize l[k]'hkl=x at *
   obtain⟨x1,x2⟩:=x;simp only at d1 d2 hs1 hs2 HST HMK;generalize hP:L.mkL (l.take k)=P at *;clear hP;obtain⟨W,hW⟩:∃W,W=wr.alloc (.cells #[.string x1,.string x2] 35):=⟨_,rfl⟩
   obtain⟨g,hg⟩:∃g,g=wr.heap.size:=⟨_,rfl⟩
   have e1:W.cell? ⟨g,0,none⟩=some (.string x1):=(by rw[hW,hg];simp);have e2:W.cell? ⟨g,1,none⟩=some (.string x2):=(by rw[hW,hg];simp);have HBW:Hd (Below w.heap.size w W):=hd (by rw[hW];exact HB.o.alloc hzr _);have HC:=hd (And.intro e1 e2);have HOW:Hd (W.ownsRow w.heap.size 35 2 u4 P.length (cellsL P)):=hd (by rw[hW];exact HO.o.alloc _);have HW:=hd hW;have HG:=hd hg;clear e1 e2 hW hg HO;have hk0:(0:Int)≤(k:Int):=(by omega);have hkc:(k:Int)≤(c:Int):=(by omega);cases h1:L.lab x1 with
   |false=>
    have C1:=hd (fun w'=>by have h:=refIsLabel_any x1 w' hs1;rw[h1]at h;exact h);have G:Hd (L.mkErr l=160):=hd (by rw[HST.o,h1];rfl);have GM:Hd (L.made l=[]):=hd (by unfold L.made;rw[if_neg (by rw[G.o];decide)]);clear h1 HST HMK HT;go_wp2_with fail
    rw[←HW.o,←HG.o];refine wp_region_below (by kernel_rfl) (by kernel_rfl) ?_;have f1:=fun p:BelW W=>p.cell (HC.o).1
    repeat (go_big_quiet_step (first|(go_at_call 72;exact Calls.below_same (C1.o _))))
    refine wpQuiet_nil ?_;rintro _ ⟨⟨w2,hb2⟩,rfl⟩;clear f1;go_wp2;go_ret2;exact⟨.slice none 0 0,ret_mk G.o.symm,by rw[GM.o];exact World.ownsRow_nil _ _ _ _,bel HBW.o hb2⟩
   |true=>
    have C1:=hd (fun w'=>by have h:=refIsLabel_any x1 w' hs1;rw[h1]at h;exact h);cases h2:L.named x1 (l.take k) with
    |true=>
     have C2:=hd (fun p:BelW W=>by have h:=named_any _ k (l.take k) x1 p.w (HT.o.below (bel HBW.o p.h)) (by omega);rw[h2]at h;exact h);have G:Hd (L.mkErr l=160):=hd (by rw[HST.o,h1,h2];rfl);have GM:Hd (L.made l=[]):=hd (by unfold L.made;rw[if_neg (by rw[G.o];decide)]);clear h1 h2 HST HMK HT;go_wp2_with fail
     rw[←HW.o,←HG.o];refine wp_region_below (by kernel_rfl) (by kernel_rfl) ?_;have f1:=fun p:BelW W=>p.cell (HC.o).1
     repeat (go_big_quiet_step (first|(go_at_call 72;exact Calls.below_same (C1.o _))|(go_at_call 74;exact Calls.below_same (C2.o _))))
     refine wpQuiet_nil ?_;rintro _ ⟨⟨w2,hb2⟩,rfl⟩;clear f1;go_wp2;go_ret2;exact⟨.slice none 0 0,ret_mk G.o.symm,by rw[GM.o];exact World.ownsRow_nil _ _ _ _,bel HBW.o hb2⟩
    |false=>
     have C2:=hd (fun p:BelW W=>by have h:=named_any _ k (l.take k) x1 p.w (HT.o.below (bel HBW.o p.h)) (by omega);rw[h2]at h;exact h);cases h3:U.valid x2 with
     |false=>
      have C3:=hd (fun w'=>by have h:=refValid_any x2 w' hs2;rw[h3]at h;exact h);have G:Hd (L.mkErr l=4):=hd (by rw[HST.o,h1,h2,h3];rfl);have GM:Hd (L.made l=[]):=hd (by unfold L.made;rw[if_neg (by rw[G.o];decide)]);clear h1 h2 h3 HST HMK HT;go_wp2_with fail
      rw[←HW.o,←HG.o];refine wp_region_below (by kernel_rfl) (by kernel_rfl) ?_;have f1:=fun p:BelW W=>p.cell (HC.o).1
      repeat (go_big_quiet_step (first|(go_at_call 72;exact Calls.below_same (C1.o _))|(go_at_call 74;exact Calls.below_same (C2.o _))))
      refine wpQuiet_nil ?_;rintro _ ⟨p,rfl⟩;clear f1;have f2:=p.cell (HC.o).2;go_wp2_with (go_at_call 65;refine(C3.o _).mono ?_;rintro e w3 ⟨rfl,hb⟩;have HB3:=hd (bel (bel HBW.o p.h) hb);clear hb)
      go_ret2;exact⟨.slice none 0 0,ret_mk G.o.symm,by rw[GM.o];exact World.ownsRow_nil _ _ _ _,HB3.o⟩
     |true=>
      have C3:=hd (fun w'=>by have h:=refValid_any x2 w' hs2;rw[h3]at h;exact h);have G:Hd (L.mkErrP (l.take (k+1)) (l.drop (k+1))=L.mkErr l):=hd (by rw[HST.o,h1,h2,h3];rfl);clear h1 h2 h3 HST HT;go_wp2_with fail
      rw[←HW.o,←HG.o];refine wp_region_below (by kernel_rfl) (by kernel_rfl) ?_;have f1:=fun p:BelW W=>p.cell (HC.o).1
      repeat (go_big_quiet_step (first|(go_at_call 72;exact Calls.below_same (C1.o _))|(go_at_call 74;exact Calls.below_same (C2.o _))))
      refine wpQuiet_nil ?_;rintro _ ⟨p,rfl⟩;clear f1;have f2:=p.cell (HC.o).2;go_wp2_with (go_at_call 65;refine(C3.o _).mono ?_;rintro e w3 ⟨rfl,hb⟩;have B3:=hd (bel p.h hb);have q1:=B3.o.cell (p:=⟨g,0,none⟩) (World.block_lt_of_cell? W _ (HC.o).1) |>.trans (HC.o).1;have q2:=B3.o.cell (p:=⟨g,1,none⟩) (World.block_lt_of_cell? W _ (HC.o).2) |>.trans (HC.o).2;clear hb f2)
      have HO3:=hd (own_below HOW.o B3.o);have HB3:=hd (bel HBW.o B3.o);go_wp2_with (go_at_call 37;refine(refWith_any u4 P.length P x1 x2 _ (IsL.own HO3.o) (by omega)).mono ?_;rintro e w4 ⟨y,rfl,ho,hb⟩;have HO4:=hd (own_mono ho HB3.o.size);have HB4:=hd (bel HB3.o hb);clear ho hb q1 q2)
      rw[←HMK.o]at HO4;go_roundw
      case rel=>exact⟨k+1,by omega,by go_num,HO4,G,HB4⟩
      case measure=>simp[intOf];omega
  ·have e:l.take k=l:=List.take_of_length_le (by rw[HLL.o];omega)
   have e2:l.drop k=[]:=List.drop_eq_nil_of_le (by rw[HLL.o];omega);have G:Hd (L.mkErr l=0):=hd (by rw[←hG.o,e2];rfl);have GM:Hd (L.made l=L.mkL l):=hd (by unfold L.made;rw[if_pos G.o]);rw[e]at HO;clear e e2 hG;go_wp2;go_ret2;exact⟨_,ret_mk G.o.symm,by rw[GM.o];exact HO.o,HB.o⟩
namespace SC
theorem isMet_eq (s:ByteArray)(h:0<s.size):isMet s=(!L.dgt (s[0]'h).toNat && decide (L.nlen true s.data.toList=s.size)):=by
 have e:=data_drop s 0 h;rw[List.drop_zero]at e;rw[Bool.eq_iff_iff,Bool.and_eq_true,decide_eq_true_eq,Lib.size_eq,L.nlen_all];unfold isMet
 conv=>lhs;rw[e]
 simp only;rw[Bool.and_eq_true,←e]
def metC (k c:Nat):Bool:=L.ltr c ||c==58 ||(k !=0 && L.dgt c)
theorem isMet_false (s:ByteArray)(k:Nat)(h:k<s.size)(h1:metC k (s[k]'h).toNat=false):isMet s=false:=by
 have h0:0<s.size:=(by omega);rw[isMet_eq s h0];unfold metC at h1;by_cases hk:k=0
 ·subst hk
  cases hd:L.dgt (s[0]'h).toNat with
  |true=>rfl
  |false=>
   have:L.nlen true s.data.toList≠s.size:=by
    rw[Lib.size_eq,Ne,L.nlen_all,List.all_eq_true];intro e;have e2:=e (s[0]'h) (by
     have:=data_drop s 0 h;exact List.mem_of_mem_drop (i:=0) (by rw[this];exact List.mem_cons_self ..))
    unfold L.nok at e2;rw[hd]at e2;simp at e2 h1;rcases e2 with e2|e2
    ·rw[h1.1]at e2;exact absurd e2 (by decide)
    ·exact h1.2 e2
   simp[this]
 ·have:L.nlen true s.data.toList≠s.size:=by
   rw[Lib.size_eq,Ne,L.nlen_all,List.all_eq_true];intro e;have e2:=e (s[k]'h) (by
    have:=data_drop s k h;exact List.mem_of_mem_drop (i:=k) (by rw[this];exact List.mem_cons_self ..))
   unfold L.nok at e2;simp[hk]at e2 h1;rcases e2 with (e2|e2)|e2
   ·rw[h1.1.1]at e2;exact absurd e2 (by decide)
   ·rw[h1.2]at e2;exact absurd e2 (by decide)
   ·exact h1.1.2 e2
  simp[this]
theorem isMet_true (s:ByteArray)(h0:0<s.size)(h:∀k (hk:k<s.size),metC k (s[k]'hk).toNat=true):isMet s=true:=by
 rw[isMet_eq s h0,Bool.and_eq_true,decide_eq_true_eq]
 constructor
 ·have h1:=h 0 h0
  unfold metC at h1;cases hd:L.dgt (s[0]'h0).toNat with
  |false=>rfl
  |true=>
   exfalso;unfold L.dgt at hd;unfold L.ltr at h1;simp at hd h1;omega
 ·rw[Lib.size_eq,L.nlen_all,List.all_eq_true]
  intro c hc;obtain⟨k,hk,rfl⟩:=List.mem_iff_getElem.1 hc;have hk2:k<s.size:=(by rw[Lib.size_eq];exact hk);have h1:=h k hk2;unfold L.nok;unfold metC at h1;show (L.ltr (s[k]'hk2).toNat ||L.dgt (s[k]'hk2).toNat ||(true && (s[k]'hk2).toNat==58))=true
  simp at h1 ⊢;rcases h1 with (h1|h1)|h1
  ·exact .inl (.inl h1)
  ·exact .inr h1
  ·exact .inl (.inr h1.2)
end SC
theorem ismetric_any (s:ByteArray)(w:World)(hs:s.size≤1125899906842624) :
  Calls prog 30 #[.string s] w fun e w'=>e=.returned (.bool (SC.isMet s))∧w=w':=by
 by_cases h0:s.size=0
 ·have hnil:s.toList=[]:=by rw[Lib.toList_data];exact List.eq_nil_of_length_eq_zero (by rw[←Lib.size_eq];exact h0)
  have hem:s.toList.isEmpty=true:=(by rw[hnil];rfl);have G:Hd (SC.isMet s=false):=hd <|by unfold SC.isMet;rw[←Lib.toList_data,hnil]
  go_enter func30,ntmps30;go_wp2;go_ret;exact⟨ret_bool G.o.symm,rfl⟩
 ·have hp:0<s.size:=by omega
  have hpi:(0:Int)<(s.size:Int):=(by omega);have hc:(s[0]'hp).toNat<256:=(s[0]'hp).toNat_lt;have hnn:¬ s.toList=[]:=(by rw[Lib.toList_data];intro e;have:=congrArg List.length e;rw[←Lib.size_eq]at this;exact h0 this);have hem:s.toList.isEmpty=false:=(by rw[List.isEmpty_eq_false_iff];exact hnn);have HLC:=hd (SC.isMet_eq s hp);have hD:List.drop 0 s.data.toList=s.data.toList:=rfl;have HN:=hd (show ∀W:World,Calls prog 69 #[.string s,.int .i64 0,.bool true] W fun e w'=>e=.returned (.int .i64 (L.nlen true s.data.toList:Nat))∧W=w' from fun W=>by
   have h:=nameEnd_any s 0 true W hs (Nat.zero_le _);rw[hD,Nat.zero_add]at h;exact h)
  clear hD;cases hl:L.dgt (s[0]'hp).toNat with
  |false=>
   have V:=hd hl;have G:Hd (SC.isMet s=decide (L.nlen true s.data.toList=s.size)):=hd <|by rw[HLC.o,hl];simp
   clear hl HLC;generalize L.nlen true s.data.toList=m at *;by_cases hm:m=s.size
   ·have hb:((m:Int)==(s.size:Int))=true:=by rw[hm];simp
    have G2:Hd (SC.isMet s=true):=hd <|by rw[G.o,hm];simp
    clear hm;go_enter func30,ntmps30;go_wp2_with (first|(go_at_call 68;refine(ldigit_any _ _ hc).mono ?_;rintro e w' ⟨rfl,rfl⟩;rw[V.o])|(go_at_call 69;refine(HN.o _).mono ?_;rintro e w' ⟨rfl,rfl⟩))
    go_ret;exact⟨ret_bool G2.o.symm,rfl⟩
   ·have hb:((m:Int)==(s.size:Int))=false:=by rw[bf];omega
    have G2:Hd (SC.isMet s=false):=hd <|by rw[G.o];simp[hm]
    clear hm;go_enter func30,ntmps30;go_wp2_with (first|(go_at_call 68;refine(ldigit_any _ _ hc).mono ?_;rintro e w' ⟨rfl,rfl⟩;rw[V.o])|(go_at_call 69;refine(HN.o _).mono ?_;rintro e w' ⟨rfl,rfl⟩))
    go_ret;exact⟨ret_bool G2.o.symm,rfl⟩
  |true=>
   have V:=hd hl;have G:Hd (SC.isMet s=false):=hd <|by rw[HLC.o,hl];rfl
   clear hl HLC;go_enter func30,ntmps30;go_wp2_with (go_at_call 68;refine(ldigit_any _ _ hc).mono ?_;rintro e w' ⟨rfl,rfl⟩;rw[V.o])
   go_ret;exact⟨ret_bool G.o.symm,rfl⟩
theorem refismetric_any (s:ByteArray)(w:World)(hs:s.size≤1125899906842624) :
  Calls prog 36 #[.string s] w fun e w'=>e=.returned (.bool (SC.isMet s))∧w=w':=by
 go_enter func36,ntmps36;go_wp2
 go_loop [3] (fun x=>∃k:Nat,k≤s.size∧x=.int .i64 k∧Hd (∀j (hj:j<s.size),j<k→SC.metC j (s[j]'hj).toNat=true)) (fun x=>s.size-(intOf x).toNat)
 case atStart=>exact⟨0,Nat.zero_le _,rfl,hd fun j _ h=>by omega⟩
 case round=>
  obtain⟨k,hk,rfl,hG⟩:=hrel;by_cases hlt:k<s.size
  ·have hc:(s[k]'hlt).toNat<256:=(s[k]'hlt).toNat_lt
   have NEXT:Hd (SC.metC k (s[k]'hlt).toNat=true→∀j (hj:j<s.size),j<k+1→SC.metC j (s[j]'hj).toNat=true):=hd fun h j hj hjk=>by
    by_cases e:j=k
    ·subst e;exact h
    ·exact hG.o j hj (by omega)
   have BAD:Hd (SC.metC k (s[k]'hlt).toNat=false→SC.isMet s=false):=hd fun h1=>SC.isMet_false s k hlt h1
   clear hG;cases hl:L.ltr (s[k]'hlt).toNat with
   |true=>
    have V:=hd hl;have G:=hd (NEXT.o (by unfold SC.metC;rw[hl];rfl));clear NEXT BAD hl;go_wp2_with (go_at_call 56;refine(refLetter_any _ _ hc).mono ?_;rintro e w' ⟨rfl,rfl⟩;rw[V.o])
    go_round
    case rel=>exact⟨k+1,by omega,by go_num,G⟩
    case measure=>simp[intOf];omega
   |false=>
    have V:=hd hl;by_cases h58:(s[k]'hlt).toNat=58
    ·have G:=hd (NEXT.o (by unfold SC.metC;rw[h58];simp))
     have e58:(((s[k]'hlt).toNat:Int)!=58)=false:=(by rw[h58];rfl);clear NEXT BAD hl h58;go_wp2_with (go_at_call 56;refine(refLetter_any _ _ hc).mono ?_;rintro e w' ⟨rfl,rfl⟩;rw[V.o])
     go_round
     case rel=>exact⟨k+1,by omega,by go_num,G⟩
     case measure=>simp[intOf];omega
    ·have e58:(((s[k]'hlt).toNat:Int)!=58)=true:=by rw[bne_iff_ne];omega
     have b58:((s[k]'hlt).toNat==58)=false:=(by rw[bf];exact h58);by_cases hk0:k=0
     ·have G:=hd (BAD.o (by unfold SC.metC;rw[hl,b58];simp[hk0]))
      have e0:((k:Int)==0)=true:=(by rw[hk0];rfl);clear NEXT BAD hl hk0 h58 b58;go_wp2_with (go_at_call 56;refine(refLetter_any _ _ hc).mono ?_;rintro e w' ⟨rfl,rfl⟩;rw[V.o])
      go_ret;exact⟨ret_bool G.o.symm,rfl⟩
     ·have e0:((k:Int)==0)=false:=by rw[bf];omega
      cases hg:L.dgt (s[k]'hlt).toNat with
      |true=>
       have V2:=hd hg;have G:=hd (NEXT.o (by unfold SC.metC;rw[hg];simp[hk0]));clear NEXT BAD hl hg hk0 h58 b58;go_wp2_with (first|(go_at_call 56;refine(refLetter_any _ _ hc).mono ?_;rintro e w' ⟨rfl,rfl⟩;rw[V.o])|(go_at_call 58;refine(refDigit_any _ _ hc).mono ?_;rintro e w' ⟨rfl,rfl⟩;rw[V2.o]))
       go_round
       case rel=>exact⟨k+1,by omega,by go_num,G⟩
       case measure=>simp[intOf];omega
      |false=>
       have V2:=hd hg;have G:=hd (BAD.o (by unfold SC.metC;rw[hl,b58,hg];simp));clear NEXT BAD hl hg hk0 h58 b58;go_wp2_with (first|(go_at_call 56;refine(refLetter_any _ _ hc).mono ?_;rintro e w' ⟨rfl,rfl⟩;rw[V.o])|(go_at_call 58;refine(refDigit_any _ _ hc).mono ?_;rintro e w' ⟨rfl,rfl⟩;rw[V2.o]))
       go_ret;exact⟨ret_bool G.o.symm,rfl⟩
  ·have hkk:k=s.size:=by omega
   by_cases h0:s.size=0
   ·have hnil:s.toList=[]:=by rw[Lib.toList_data];exact List.eq_nil_of_length_eq_zero (by rw[←Lib.size_eq];exact h0)
    have hem:s.toList.isEmpty=true:=(by rw[hnil];rfl);have G:Hd (SC.isMet s=false):=hd <|by unfold SC.isMet;rw[←Lib.toList_data,hnil]
    clear hkk h0;go_wp2;go_ret;exact⟨ret_bool G.o.symm,rfl⟩
   ·have hnn:¬ s.toList=[]:=by rw[Lib.toList_data];intro e;have:=congrArg List.length e;rw[←Lib.size_eq]at this;exact h0 this
    have hem:s.toList.isEmpty=false:=(by rw[List.isEmpty_eq_false_iff];exact hnn);have G:Hd (SC.isMet s=true):=hd <|SC.isMet_true s (by omega) fun j hj=>hG.o j hj (by omega)
    clear hG hkk h0;go_wp2;go_ret;exact⟨ret_bool G.o.symm,rfl⟩
end Go.Proofs.YtieknenhfeejiaaGreatDoor
