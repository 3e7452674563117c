/- The walk of weirlaw16.same. The walk of labels.With. The walks of slices.Inde .. -/
import Derived.Test.YtieknenhfeejiaaGreatDoorLBase
import Derived.Test.YtieknenhfeejiaaGreatDoorBk
import Derived.Test.YtieknenhfeejiaaGreatDoorBase4
set_option maxHeartbeats 4000000
set_option maxRecDepth 100000
set_option linter.unusedVariables false
set_option linter.unusedSimpArgs false
namespace Go.Proofs.YtieknenhfeejiaaGreatDoor
open _root_.Go.Proofs.Tryz
open Go.RowKit
theorem bytes_ne {a b:ByteArray}(h:a≠b):(a.toList==b.toList)=false:=by
 rw[bf];intro e;apply h;rw[ByteArray.toList_eq,ByteArray.toList_eq]at e;exact ByteArray.ext (Array.toList_inj.1 e)
theorem label_eq (w:World)(a b c d:ByteArray):(Op.equalIn 10000 35 (.agg #[.string a,.string b]) (.agg #[.string c,.string d])).run prog w=.ok (a.toList==c.toList && b.toList==d.toList) w:=by
 have ht:prog.underlying 35=some (.struct (prog.fieldsOf 35)):=(by unfold Program.fieldsOf;rw[underlying35]);have hp:prog.stoodInHeld 35=false:=(by kernel_rfl);have hs:=underlying9;rw[run_equalIn_agg w 9999 _ _ _ ht hp];unfold Program.fieldsOf;rw[underlying35];have h1:=run_equalIn_string (P:=prog) w 9998 9 a c hs;have h2:=run_equalIn_string (P:=prog) w 9998 9 b d hs;simp[Op.eqFields,part,isAgg,run_underlying hs,h1,h2];by_cases h3:a.toList=c.toList
 ·by_cases h4:b.toList=d.toList
  ·rw[if_pos h3,if_pos h4];simp[h3,h4]
  ·rw[if_pos h3,if_neg h4];simp[h3,h4]
 ·rw[if_neg h3];simp[h3]
theorem toList_inj {a b:ByteArray}:a.toList=b.toList↔a=b:=by
 constructor
 ·intro h
  rw[ByteArray.toList_eq,ByteArray.toList_eq]at h;exact ByteArray.ext (Array.toList_inj.1 h)
 ·intro h;rw[h]
theorem lab_ne (x y:Lb):(x.1.toList==y.1.toList && x.2.toList==y.2.toList)=decide (x=y):=by
 obtain⟨a,b⟩:=x;obtain⟨c,d⟩:=y;rw[Bool.eq_iff_iff];simp[toList_inj]
theorem lsame_ne (A B:Option Addr)(n m ca cb:Nat)(w:World)(hne:n≠m) :
  Calls prog 12 #[.slice A n ca,.slice B m cb] w fun e w'=>e=.returned (.bool false)∧Below w.heap.size w w':=by
 have hb:((n:Int)!=(m:Int))=true:=(by rw[bne_iff_ne];omega);go_enter func12,ntmps12;go_wp2
 all_goals first
  |(exfalso;omega)
  |(go_ret;exact⟨rfl,Below.refl _ _⟩)
theorem lsame_any (va vb:Value)(n m:Nat)(xs ys:List Lb)(w:World)(hx:IsL 2 w va n (cellsL xs))(hy:IsL 2 w vb m (cellsL ys))(hn:n≤1125899906842624) :
  Calls prog 12 #[va,vb] w fun e w'=>e=.returned (.bool (decide (xs=ys)))∧Below w.heap.size w w':=by
 have lx:=IsLb.len hx;have ly:=IsLb.len hy;obtain⟨A,ca,rfl⟩:=hx.shape;obtain⟨B,cb,rfl⟩:=hy.shape;by_cases hne:n=m
 ·subst hne
  have HX:=hd lx;have HY:=hd ly;have H1:=hd hx;have H2:=hd hy;have hle:=label_eq;clear lx ly hx hy;go_enter func12,ntmps12;go_wp2;go_loopw [13] (fun x wr=>∃k q:Nat,k≤n∧x=.int .i64 k∧wr=w.drewN q∧Hd (xs.take k=ys.take k)) (fun x _=>n-(intOf x).toNat)
  case atStart=>exact⟨0,0,Nat.zero_le _,rfl,rfl,hd rfl⟩
  case round=>
   obtain⟨k,q,hk,rfl,rfl,ht⟩:=hrel;by_cases hlt:k<n
   ·have hkx:k<xs.length:=by rw[HX.o];exact hlt
    have hky:k<ys.length:=(by rw[HY.o];exact hlt);obtain⟨b1,o1,rfl,_,c1,c2⟩:=IsLb.at_ H1.o k hkx;obtain⟨b2,o2,rfl,_,c3,c4⟩:=IsLb.at_ H2.o k hky;have hik:(0:Int)≤(k:Int):=(by omega);have hikn:(k:Int)<(n:Int):=(by omega);have hl:=lab_ne xs[k] ys[k];cases he:decide (xs[k]=ys[k]) with
    |true=>
     have G:Hd (xs.take (k+1)=ys.take (k+1)):=hd (take_succ_eq ht.o _ _ (by simpa using he));rw[he]at hl;clear he;generalize xs[k]=x at *;generalize ys[k]=y at *;go_wp2_with fail
     go_quiet (fail)
     go_wp2;go_roundw
     case rel=>exact⟨k+1,_,by omega,by go_num,rfl,G⟩
     case measure=>simp[intOf];omega
    |false=>
     have G:Hd (decide (xs=ys)=false):=hd <|by
      rw[decide_eq_false_iff_not];exact getElem_ne (k:=k) hkx hky (by simpa using he)
     rw[he]at hl;clear he;generalize xs[k]=x at *;generalize ys[k]=y at *;go_wp2_with fail
     go_quiet (fail)
     go_wp2;go_ret;exact⟨ret_bool G.o.symm,bel_drew (bel_drew (Below.refl _ _) _) _⟩
   ·have G:Hd (decide (xs=ys)=true):=hd <|by
     have e:=ht.o;have hkn:k=n:=(by omega);rw[hkn,List.take_of_length_le (by rw[HX.o];exact Nat.le_refl _),List.take_of_length_le (by rw[HY.o];exact Nat.le_refl _)]at e;rw[e];simp
    go_wp2;go_ret;exact⟨ret_bool G.o.symm,bel_drew (Below.refl _ _) _⟩
 ·have G:decide (xs=ys)=false:=by rw[decide_eq_false_iff_not];rintro rfl;omega
  rw[G];exact lsame_ne A B n m ca cb w hne
namespace L
def gt (a b:ByteArray):Bool:=!(Op.bytesLess a.toList b.toList)
def withGo (n v:ByteArray):Bool→List Lb→List Lb
 |put,[]=>if put then [] else [(n,v)]
 |put,x::r=>if x.1=n then withGo n v put r else if put=false∧gt x.1 n=true then(n,v)::x::withGo n v true r else x::withGo n v put r
def withL (l:List Lb)(n v:ByteArray):List Lb:=withGo n v v.toList.isEmpty l
theorem withGo_len (n v:ByteArray):∀(l:List Lb) (put:Bool),(withGo n v put l).length≤l.length+1
 |[],put=>by unfold withGo;split<;>simp
 |x::r,put=>by
  unfold withGo;have h1:=withGo_len n v r put;have h2:(withGo n v true r).length≤r.length:=withGo_true n v r;split
  ·simp;omega
  ·split
   ·simp;omega
   ·simp;omega
where
 withGo_true (n v:ByteArray):∀(l:List Lb),(withGo n v true l).length≤l.length
  |[]=>by simp[withGo]
  |x::r=>by
   unfold withGo;have:=withGo_true n v r;split
   ·simp;omega
   ·simp;omega
end L
theorem info_label:(prog.info? 35).map (fun i=>(i.zero,i.size,i.bytes))=some (some (.agg #[.string ⟨#[]⟩,.string ⟨#[]⟩]),2,32):=by kernel_rfl
namespace L
def isIn (x:ByteArray):List ByteArray→Bool
 |[]=>false
 |y::r=>if x=y then true else isIn x r
def metric:ByteArray:=⟨#[95,95,110,97,109,101,95,95]⟩
def stays (name:ByteArray)(names:List ByteArray)(without:Bool):Bool:=
 if without then decide (name≠metric) && !isIn name names else isIn name names
end L
section
variable {P:Program}
end
theorem cellsL_set:∀(M:List Lb) (i:Nat) (x y:ByteArray),((cellsL M).set (i*2) (.string x)).set (i*2+1) (.string y)=cellsL (M.set i (x,y))
 |[],i,x,y=>by simp[cellsL]
 |z::M,0,x,y=>by simp[cellsL]
 |z::M,i+1,x,y=>by
  rw[cellsL_cons,show (i+1)*2=i*2+1+1 by omega,List.set_cons_succ,List.set_cons_succ,List.set_cons_succ,List.set_cons_succ,cellsL_set M i x y];rfl
theorem cellsL_ext {l m:List Value}(k:Nat)(h1:l.length=k*2)(h2:m.length=k*2)(h:∀i,i<k→l[i*2]?=m[i*2]?∧l[i*2+1]?=m[i*2+1]?):l=m:=by
 apply List.ext_getElem?;intro j;by_cases hj:j<k*2
 ·rcases Nat.mod_two_eq_zero_or_one j with e|e
  ·rw[show j=(j/2)*2 by omega];exact(h (j/2) (by omega)).1
  ·rw[show j=(j/2)*2+1 by omega];exact(h (j/2) (by omega)).2
 ·rw[List.getElem?_eq_none (by omega),List.getElem?_eq_none (by omega)]
theorem made2 (k:Nat)(x y:ByteArray):(madeCells #[.string x,.string y] (k*2)).toList=cellsL (List.replicate k (x,y)):=by
 refine cellsL_ext k (by simp[madeCells]) (by rw[cellsL_len,List.length_replicate]) (fun i hi=>?_);obtain⟨a,b⟩:=cellsL_at (List.replicate k (x,y)) i (by simpa using hi);rw[a,b];have h1:i*2<k*2:=(by omega);have h2:i*2+1<k*2:=(by omega);have e1:i*2%2=0:=(by omega);have e2:(i*2+1)%2=1:=by omega
 constructor
 ·simp[madeCells,h1,e1]
 ·simp[madeCells,h2,e2]
end Go.Proofs.YtieknenhfeejiaaGreatDoor
namespace Go.Proofs.YtieknenhfeejiaaGreatDoor
open _root_.Go.Proofs.Tryz
open Go.RowKit
def mkA (i:Nat):ByteArray:=⟨[35,UInt8.ofNat i,UInt8.ofNat (i/256)].toArray⟩
def mkB (k:Nat):ByteArray:=⟨[35,UInt8.ofNat k].toArray⟩
theorem conv_at (W:World)(H k:Nat)(hH:W.heap.size=H)(bs:List UInt8)(C:Array Value)(hC:C.toList=cellsB bs)(hk:bs.length=k)(hm:k≤1000) :
  (convert 63 9 (.slice (some ⟨H,0,none⟩) k k)).run prog (W.alloc (.cells C 5))=.ok (.string ⟨bs.toArray⟩) (W.alloc (.cells C 5)):=by
 subst hH;refine run_string_of _ 63 9 5 underlying63 underlying5 underlying9 _ k bs (IsL.own (B:=W.heap.size) (e:=5) ?_);have:=World.ownsRow_lit (base:=W.heap.size) (e:=5) (size:=1) W C k (Nat.le_refl _) (by unfold maxLen;omega) (by have:=congrArg List.length hC;simp[cellsB]at this;omega);rw[hC]at this;exact this
theorem mark_any (i k:Nat)(w:World)(hi:i≤16777216)(hk:k≤255) :
  Calls prog 43 #[.int .i64 i,.int .i64 k] w fun e w'=>e=.returned (.agg #[.string (mkA i),.string (mkB k)])∧Below w.heap.size w w':=by
 obtain⟨x1,hx1⟩:∃x1,x1=mkA i:=⟨_,rfl⟩
 obtain⟨x2,hx2⟩:∃x2,x2=mkB k:=⟨_,rfl⟩
 have h1:(convert 63 9 (.slice (some ⟨w.heap.size+1,0,none⟩) 3 3)).run prog ((w.alloc (.cells #[.string ⟨#[]⟩,.string ⟨#[]⟩] 35)).alloc (.cells #[.int .u8 35,.int .u8 ((i:Int)%256),.int .u8 ((i:Int)/256%256)] 5))=.ok (.string x1) ((w.alloc (.cells #[.string ⟨#[]⟩,.string ⟨#[]⟩] 35)).alloc (.cells #[.int .u8 35,.int .u8 ((i:Int)%256),.int .u8 ((i:Int)/256%256)] 5)):=by
  rw[hx1];refine conv_at _ _ 3 (by simp) [35,UInt8.ofNat i,UInt8.ofNat (i/256)] _ ?_ rfl (by decide);simp[cellsB]
 have h2:(convert 63 9 (.slice (some ⟨w.heap.size+1+1,0,none⟩) 2 2)).run prog (((w.alloc (.cells #[.string ⟨#[]⟩,.string ⟨#[]⟩] 35)).alloc (.cells #[.int .u8 35,.int .u8 ((i:Int)%256),.int .u8 ((i:Int)/256%256)] 5)).alloc (.cells #[.int .u8 35,.int .u8 (k:Int)] 5))=.ok (.string x2) (((w.alloc (.cells #[.string ⟨#[]⟩,.string ⟨#[]⟩] 35)).alloc (.cells #[.int .u8 35,.int .u8 ((i:Int)%256),.int .u8 ((i:Int)/256%256)] 5)).alloc (.cells #[.int .u8 35,.int .u8 (k:Int)] 5)):=by
  rw[hx2];refine conv_at _ _ 2 (by simp) [35,UInt8.ofNat k] _ ?_ rfl (by decide);simp[cellsB];omega
 rw[←hx1,←hx2];clear hx1 hx2;go_enter func43,ntmps43;go_wp2;refine bodyPost_ret (v:=.agg #[.string x1,.string x2]) (by simp[results,Tryz.results43,go_sem]) rfl ⟨rfl,?_⟩;exact(((Below.refl _ _).alloc (Nat.le_refl _) _).alloc (by simp) _).alloc (by simp;omega) _
def mkL (b i:Nat):Lb:=(mkA i,mkB b)
def q1 (n:Nat→Nat)(a:Nat):List Lb:=List.replicate (n a) (mkL 1 a)
def q2 (n:Nat→Nat)(a:Nat):List Lb:=q1 n a++List.replicate 16 (mkL 2 a)
def q3 (n:Nat→Nat)(a:Nat):List Lb:=q2 n a++List.replicate 200 (mkL 3 a)
def m200 (i:Nat):List Lb:=List.replicate 200 (mkL 3 i)
theorem q1_len (n:Nat→Nat)(a:Nat):(q1 n a).length=n a:=List.length_replicate
theorem q2_len (n:Nat→Nat)(a:Nat):(q2 n a).length=n a+16:=by unfold q2;rw[List.length_append,q1_len,List.length_replicate]
theorem q3_len (n:Nat→Nat)(a:Nat):(q3 n a).length=n a+216:=by unfold q3;rw[List.length_append,q2_len,List.length_replicate]
theorem q3_at (n:Nat→Nat)(a j:Nat)(h:j<(q3 n a).length):(q3 n a)[j]'h=if j<n a then mkL 1 a else if j<n a+16 then mkL 2 a else mkL 3 a:=by
 have e:(q3 n a)[j]?=some ((q3 n a)[j]'h):=List.getElem?_eq_getElem h;have hl:j<n a+16+200:=(by have:=q3_len n a;omega);rw[←Option.some_inj,←e];unfold q3;by_cases h2:j<n a+16
 ·rw[List.getElem?_append_left (by rw[q2_len];exact h2)]
  unfold q2;by_cases h1:j<n a
  ·rw[if_pos h1,List.getElem?_append_left (by rw[q1_len];exact h1)]
   unfold q1;rw[List.getElem?_replicate,if_pos h1]
  ·rw[if_neg h1,if_pos h2,List.getElem?_append_right (by rw[q1_len];omega),List.getElem?_replicate,if_pos (by rw[q1_len];omega)]
 ·rw[if_neg (by omega),if_neg h2,List.getElem?_append_right (by rw[q2_len];omega),List.getElem?_replicate,if_pos (by rw[q2_len];omega)]
theorem q2_at (n:Nat→Nat)(a j:Nat)(h:j<(q2 n a).length):(q2 n a)[j]'h=if j<n a then mkL 1 a else mkL 2 a:=by
 have l2:=q2_len n a;have h3:j<(q3 n a).length:=(by unfold q3;rw[List.length_append];omega);have:=q3_at n a j h3;rw[show (if j<n a then mkL 1 a else if j<n a+16 then mkL 2 a else mkL 3 a)=(if j<n a then mkL 1 a else mkL 2 a) from by rw[if_pos (show j<n a+16 by omega)]]at this;rw[←this,←Option.some_inj,←List.getElem?_eq_getElem,←List.getElem?_eq_getElem];unfold q3;rw[List.getElem?_append_left h]
theorem q1_at (n:Nat→Nat)(a j:Nat)(h:j<(q1 n a).length):(q1 n a)[j]'h=mkL 1 a:=List.getElem_replicate _
theorem ltake_set {l:List Lb}{x:Lb}{j:Nat}(h:l.take j=List.replicate j x)(hj:j<l.length):(l.set j x).take (j+1)=List.replicate (j+1) x:=by
 rw[List.take_succ_eq_append_getElem (by simpa using hj),List.getElem_set_self,List.take_set_of_le (Nat.le_refl _),h,List.replicate_succ']
theorem ltake_all {l:List Lb}{n:Nat}{x:Lb}(h:l.take n=List.replicate n x)(hl:l.length=n):l=List.replicate n x:=by
 rw[←h,List.take_of_length_le (by omega)]
theorem range_at (v:Nat→Value)(k i:Nat)(hi:i<k):∃h:i<((List.range k).map v).length,((List.range k).map v)[i]'h=v i:=⟨by simpa using hi,by simp⟩
theorem info_sll:(prog.info? 36).map (fun i=>(i.zero,i.size,i.bytes))=some (some (.slice none 0 0),1,24):=by kernel_rfl
theorem set_of_lt {α:Type}{l:List α}{i:Nat}{x:α}(h:i<l.length):(l.set i x)[i]?=some x:=by rw[List.getElem?_set_self h]
theorem Bk.set_far {w:World}{g:Nat}{e:TypeId}{L:List Value}(h:Bk w g e L){p:Addr}(hp:g≠p.block)(u:Value):Bk (w.setCell p u) g e L:=(Below.heap_setCell w p u g hp).trans h
theorem updC (z:Nat→List Lb)(i:Nat)(M:List Lb):upd (fun a=>cellsL (z a)) i (cellsL M)=fun a=>cellsL (upd z i M a):=by
 funext a;unfold upd;split<;>rfl
theorem own_len {w:World}{B e n:Nat}{v:Value}{M:List Lb}(h:w.ownsRow B e 2 v n (cellsL M)):M.length=n:=by have:=h.1;rw[cellsL_len]at this;omega
theorem own_at {w:World}{B e n g c:Nat}{M:List Lb}(h:w.ownsRow B e 2 (.slice (some ⟨g,0,none⟩) n c) n (cellsL M))(j:Nat)(hj:j<M.length) :
  w.cell? ⟨g,j*2,none⟩=some (.string M[j].1)∧w.cell? ⟨g,j*2+1,none⟩=some (.string M[j].2)∧w.frozen? ⟨g,j*2,none⟩=false∧w.frozen? ⟨g,j*2+1,none⟩=false:=by
 have hl:=own_len h;obtain⟨a,b⟩:=cellsL_at M j hj;exact⟨by rw[h.cellAt _ (by omega),a],by rw[h.cellAt _ (by omega),b],h.frozenAt _,h.frozenAt _⟩
theorem own_set {w:World}{B e n g c:Nat}{M:List Lb}(h:w.ownsRow B e 2 (.slice (some ⟨g,0,none⟩) n c) n (cellsL M))(j:Nat)(x y:ByteArray) :
  ((w.setCell ⟨g,j*2,none⟩ (.string x)).setCell ⟨g,j*2+1,none⟩ (.string y)).ownsRow B e 2 (.slice (some ⟨g,0,none⟩) n c) n (cellsL (M.set j (x,y)))∧
  w.grownBy ((w.setCell ⟨g,j*2,none⟩ (.string x)).setCell ⟨g,j*2+1,none⟩ (.string y)) (some g):=by
 obtain⟨a,b⟩:=h.stored (j*2) (.string x);obtain⟨a',b'⟩:=a.stored (j*2+1) (.string y);exact⟨by rw[←cellsL_set];exact a',b.trans b'⟩
theorem lapart_bl (B k gC cC:Nat)(v:Nat→Value)(n:Nat→Nat)(x:Nat→List Lb)(w:World)
  (hC:w.ownsRow B 36 1 (.slice (some ⟨gC,0,none⟩) k cC) k ((List.range k).map v))(L:Lin w B 35 2 k v n (fun a=>cellsL (x a)))(hk:k≤4194304)(hn:∀i,i<k→n i≤4194304)(hB:B≤w.heap.size) :
  Calls prog 15 #[.slice (some ⟨gC,0,none⟩) k cC] w fun e w'=>e=.returned (.bool true)∧Bl B 35 36 w w':=by
 have HE:Hd (Env w w B 35 36 2 k v n (fun a=>cellsL (x a)) [] k 1 k (fun _=>.slice (some ⟨gC,0,none⟩) k cC) (fun _=>(List.range k).map v)):=hd
  ⟨L,(fun p hp=>by cases hp),⟨fun i hi=>hC,fun i j hi hj hne=>by omega⟩,Bl.refl _ _ _ _,hB⟩
 have HN:=hd hn;clear hC L hn;go_enter func15,ntmps15;go_wp2;go_loopw [22] (fun y wr=>∃(i:Nat) (z:Nat→List Lb),i≤k∧y=.int .i64 i∧Hd (∀a,a<i→z a=q1 n a)∧
   Hd (Env w wr B 35 36 2 k v n (fun a=>cellsL (z a)) [] k 1 k (fun _=>.slice (some ⟨gC,0,none⟩) k cC) (fun _=>(List.range k).map v))) (fun y _=>k-(intOf y).toNat)
 case atStart=>exact⟨0,x,Nat.zero_le _,rfl,hd (fun a h=>by omega),HE⟩
 case round=>
  clear HE;obtain⟨i,z,hi,rfl,hZ,hE⟩:=hrel;by_cases hlt:i<k
  ·obtain⟨r1,r2⟩:=range_at v k i hlt
   have c0:=row_cell (hE.o.rows.own 0 (by omega)) rfl i r1;rw[r2]at c0;obtain⟨Ai,ci,hvi⟩:=own_shape (hE.o.lin.own i hlt);rw[hvi]at c0;have HV:=hd hvi;have hni:=HN.o i hlt;have hkk:=hk;clear hvi r1 r2;obtain⟨wo,rfl⟩:∃wo:World,wo=wr:=⟨_,rfl⟩
   go_wp2;clear c0;go_loopw [29] (fun y wr=>∃(j:Nat) (M:List Lb),j≤n i∧y=.int .i64 j∧Hd (M.take j=List.replicate j (mkL 1 i))∧
     Hd (Env w wr B 35 36 2 k v n (fun a=>cellsL (upd z i M a)) [] k 1 k (fun _=>.slice (some ⟨gC,0,none⟩) k cC) (fun _=>(List.range k).map v))) (fun y _=>n i-(intOf y).toNat)
   case atStart=>exact⟨0,z i,Nat.zero_le _,rfl,hd rfl,by rw[upd_self];exact hE⟩
   case round=>
    obtain⟨j,M,hj,rfl,hyt,hF⟩:=hrel;have hy:=hF.o.lin.own i hlt;simp only[upd_at]at hy;have hml:=own_len hy;by_cases hjn:j<n i
    ·obtain⟨g,cap,hvg,_,_⟩:=hy.form (by omega)
     have he:=HV.o.symm.trans hvg;simp only[Value.slice.injEq,true_and]at he;obtain⟨rfl,rfl⟩:=he;have HML:=hd hml;rw[hvg]at hy;have HVG:=hd hvg;have HY:=hd hy;clear hvg hy hml;go_wp2_with (go_at_call 43;refine(mark_any i 1 _ (by omega) (by decide)).mono ?_;rintro e w4 ⟨rfl,hb4⟩;have HE4:=hd (hF.o.below hb4);obtain⟨e1,e2,e3,e4⟩:=own_at (own_below HY.o hb4) j (by rw[HML.o];exact hjn);have HS:=hd (own_set (own_below HY.o hb4) j (mkA i) (mkB 1));clear hb4;generalize M[j]'_=old at *;obtain⟨old1,old2⟩:=old;simp only at e1 e2)
     go_roundw
     case rel=>
      refine⟨j+1,M.set j (mkL 1 i),by omega,by go_num,hd (ltake_set hyt.o (by rw[HML.o];exact hjn)),hd ?_⟩;have h1:=HE4.o.putE (w':=_) (by decide) (i:=i) (Z1:=cellsL (M.set j (mkL 1 i))) (by rw[HVG.o];exact HS.o.1) (by rw[HVG.o];exact HS.o.2) hlt;rw[updC,upd_upd]at h1;exact h1
     case measure=>simp[intOf];omega
    ·have hjj:j=n i:=by omega
     have HY:Hd (M=q1 n i):=hd (ltake_all (by rw[←hjj];exact hyt.o) (hjj ▸ hml));clear hy hml hjj;go_wp2;go_roundw
     case rel=>
      refine⟨i+1,upd z i M,by omega,by go_num,hd (fun a ha=>?_),hF⟩;by_cases hai:a=i
      ·subst hai;rw[upd_at];exact HY.o
      ·rw[upd_ne _ _ _ _ hai];exact hZ.o a (by omega)
     case measure=>simp[intOf];omega
  ·have HE2:Hd (Env w wr B 35 36 2 k v n (fun a=>cellsL (q1 n a)) [(v,n,fun a=>cellsL (q1 n a))] k 1 k (fun _=>.slice (some ⟨gC,0,none⟩) k cC) (fun _=>(List.range k).map v)):=hd <|by
    have h1:=hE.o.congr (Nat.le_refl _) (h':=v) (c':=n) (Z':=fun a=>cellsL (q1 n a)) (fun a ha=>⟨rfl,rfl,by rw[hZ.o a (by omega)]⟩);exact h1.see (Nat.le_refl _) v n (fun a=>cellsL (q1 n a)) (fun a ha=>⟨rfl,rfl,rfl⟩)
   clear hE hZ;have hBr:=HE2.o.base;go_wp2_with (at_make;refine wpList_mkn _ 31 36 (.slice none 0 0) 1 24 underlying31 info_sll rfl _ _ rfl B _ _ k rfl rfl ?b1 ?b2 hBr ?_)
   case b1=>omega
   case b2=>omega
   intro w2 ho hg;obtain⟨gG,hgG⟩:∃gG,gG=wr.heap.size:=⟨_,rfl⟩
   rw[←hgG]at ho ⊢;obtain⟨Y1,HE3⟩:∃Y1,Hd (Env w w2 B 35 36 2 k v n (fun a=>cellsL (q1 n a)) [(v,n,fun a=>cellsL (q1 n a))] k 2 k (upd (fun _=>.slice (some ⟨gC,0,none⟩) k cC) 1 (.slice (some ⟨gG,0,none⟩) k k)) (upd (fun _=>(List.range k).map v) 1 Y1)):=
    ⟨_,hd (HE2.o.pushT ho (below_of_grown (row:=none) hg) (fun g hg=>by simp[Value.ownBlock]at hg;omega))⟩
   clear ho hg HE2 hgG hBr;go_wp2;go_loopw [44] (fun x wr=>∃(i:Nat) (h:Nat→Value) (c:Nat→Nat) (Z:Nat→List Lb) (Y:Nat→List Value),i≤k∧x=.int .i64 i∧
     Hd (∀a,a<k→a<i→c a=n a+16∧Z a=q2 n a∧(Y 1)[a]?=some (h a))∧Hd (∀a,a<k→i≤a→h a=v a∧c a=n a∧Z a=q1 n a)∧Hd (Y 0=(List.range k).map v)∧
     Hd (Env w wr B 35 36 2 k h c (fun a=>cellsL (Z a)) [(v,n,fun a=>cellsL (q1 n a))] k 2 k (upd (fun _=>.slice (some ⟨gC,0,none⟩) k cC) 1 (.slice (some ⟨gG,0,none⟩) k k)) Y)) (fun x _=>k-(intOf x).toNat)
   case atStart=>exact⟨0,v,n,q1 n,_,Nat.zero_le _,rfl,hd (fun a _ h=>by omega),hd (fun a _ _=>⟨rfl,rfl,rfl⟩),hd rfl,HE3⟩
   case round=>
    clear HE3 hlt hi;obtain⟨i,h,c,Z,Y,hi,rfl,hpast,hfut,hY0,hE⟩:=hrel;by_cases hlt:i<k
    ·obtain⟨r1,r2⟩:=range_at v k i hlt
     have c0:=row_cell (hE.o.rows.own 0 (by omega)) rfl i (by rw[hY0.o];exact r1);simp only[hY0.o]at c0;rw[r2]at c0;obtain⟨f1,f2,f3⟩:=hfut.o i hlt (Nat.le_refl _);obtain⟨Ai,ci,hvi⟩:=own_shape (hE.o.lin.own i hlt);rw[f1,f2]at hvi;rw[hvi]at c0;have F1:=hd f1;have F2:=hd f2;have F3:=hd f3;have HV:=hd hvi;have hni:=HN.o i hlt;have hkk:=hk;clear hvi r1 r2 f1 f2 f3;obtain⟨wo,rfl⟩:∃wo:World,wo=wr:=⟨_,rfl⟩
     go_wp2;go_loopw [9,50] (fun y x wr=>∃(t:Nat) (h':Nat→Value) (c':Nat→Nat) (Z':Nat→List Lb) (A:Option Addr) (cap:Nat),t≤16∧x=.int .i64 t∧y=.slice A (n i+t) cap∧Hd (h' i=.slice A (n i+t) cap)∧Hd (c' i=n i+t)∧
       Hd (Z' i=q1 n i++List.replicate t (mkL 2 i))∧Hd (∀a,a≠i→h' a=h a∧c' a=c a∧Z' a=Z a)∧
       Hd (Env w wr B 35 36 2 k h' c' (fun a=>cellsL (Z' a)) [(v,n,fun a=>cellsL (q1 n a))] k 2 k (upd (fun _=>.slice (some ⟨gC,0,none⟩) k cC) 1 (.slice (some ⟨gG,0,none⟩) k k)) Y)) (fun _ x _=>16-(intOf x).toNat)
     case atStart=>exact⟨0,h,c,Z,Ai,ci,Nat.zero_le _,rfl,rfl,hd (F1.o.trans HV.o),F2,hd (by rw[F3.o];simp),hd (fun a _=>⟨rfl,rfl,rfl⟩),hE⟩
     case round=>
      obtain⟨t,h',c',Z',A,cap,ht,rfl,rfl,hh,hc,hz,hoth,hF⟩:=hrel;by_cases ht16:t<16
      ·have hz1:=hF.o.base
       go_wp2_with (first
        |(at_builtin;refine wpList_app_keep _ 36 35 (.agg #[.string ⟨#[]⟩,.string ⟨#[]⟩]) 2 32 underlying36 info_label rfl (by decide) rfl _ _ rfl B (.slice A (n i+t) cap) (n i+t) (cellsL (q1 n i++List.replicate t (mkL 2 i))) rfl ?p1 (.slice (some ⟨w4.heap.size,0,none⟩) 1 1) 1 [.string (mkA i),.string (mkB 2)] rfl ?p2 ?p3 ?p4 ?p5 ?p6 ?_)
        |(go_at_call 43;refine(mark_any i 2 _ (by omega) (by decide)).mono ?_;rintro e w4 ⟨rfl,hb4⟩;have HF4:=hd (hF.o.below hb4);have hz4:=HF4.o.base;clear hb4))
       case p1=>have:=((HF4.o.lin.own i hlt).alloc (.cells #[.string (mkA i),.string (mkB 2)] 35));rw[hh.o,hc.o,hz.o]at this;exact this
       case p2=>exact IsL.own (World.ownsRow_lit (base:=w4.heap.size) w4 #[.string (mkA i),.string (mkB 2)] 1 (Nat.le_refl _) (by decide) rfl)
       case p3=>intro u hu;simp only[List.mem_cons,List.not_mem_nil,or_false]at hu;rcases hu with rfl|rfl<;>rfl
       case p4=>omega
       case p5=>omega
       case p6=>simp;omega
       intro v' w' ho hg hk' hat;rw[show cellsL (q1 n i++List.replicate t (mkL 2 i))++[.string (mkA i),.string (mkB 2)]=cellsL (q1 n i++List.replicate (t+1) (mkL 2 i)) from by rw[List.replicate_succ',←List.append_assoc,cellsL_app _ [mkL 2 i]];rfl]at ho;obtain⟨A',cap',rfl⟩:=own_shape ho;have HE':=(HF4.o.alloc (.cells #[.string (mkA i),.string (mkB 2)] 35)).stepE (by decide) ho (by rw[hh.o];exact hg) (by rw[hc.o,hh.o];exact hk') (by rw[hh.o,World.size_alloc];exact hat) hlt (by rw[hc.o];omega);rw[updC]at HE';have HE':=hd HE';clear ho hg hk' hat;go_wp2;go_roundw
       case rel=>exact⟨t+1,_,_,_,A',cap',by omega,by go_num,rfl,hd (upd_at _ _ _),hd (upd_at _ _ _),hd (upd_at _ _ _),hd (fun a ha=>by rw[upd_ne _ _ _ _ ha,upd_ne _ _ _ _ ha,upd_ne _ _ _ _ ha];exact hoth.o a ha),HE'⟩
       case measure=>simp[intOf];omega
      ·obtain rfl:t=16:=by omega
       have hG:=hF.o.rows.own 1 (by omega);rw[upd_at]at hG;have hyl:i<(Y 1).length:=(by have:=hG.1;omega);have c1:=row_cell hG rfl i hyl;have f1:=hG.frozenAt i;have HS:=hd (hG.stored i (.slice A (n i+16) cap));have HE':=hd (hF.o.stepT (by decide) (i:=1) (by rw[upd_at];exact HS.o.1) (by rw[upd_at];exact HS.o.2) (by omega));clear hG HS;generalize (Y 1)[i]'hyl=old at *;go_wp2;go_roundw
       case rel=>
        refine⟨i+1,h',c',Z',_,by omega,by go_num,hd (fun a hak hai=>?_),hd (fun a hak hai=>?_),hd ?_,HE'⟩
        ·rw[upd_at]
         by_cases hae:a=i
         ·subst hae
          refine⟨hc.o,by rw[hz.o];rfl,?_⟩;rw[set_of_lt hyl,hh.o]
         ·obtain⟨o1,o2,o3⟩:=hoth.o a hae
          obtain⟨p1,p2,p3⟩:=hpast.o a hak (by omega);refine⟨by rw[o2];exact p1,by rw[o3];exact p2,?_⟩;rw[List.getElem?_set_ne (Ne.symm hae),p3,o1]
        ·obtain⟨o1,o2,o3⟩:=hoth.o a (by omega)
         obtain⟨p1,p2,p3⟩:=hfut.o a hak (by omega);exact⟨by rw[o1];exact p1,by rw[o2];exact p2,by rw[o3];exact p3⟩
        ·rw[upd_ne _ _ _ _ (by decide)];exact hY0.o
       case measure=>simp[intOf];omega
    ·obtain⟨n2,hn2⟩:∃n2:Nat→Nat,∀a,n2 a=n a+16:=⟨_,fun a=>rfl⟩
     have HN2:=hd hn2;have HY1:Hd (∀a,a<k→(Y 1)[a]?=some (h a)):=hd fun a ha=>(hpast.o a ha (by omega)).2.2
     have HE2:Hd (Env w wr B 35 36 2 k h n2 (fun a=>cellsL (q2 n a)) [(h,n2,fun a=>cellsL (q2 n a)),(v,n,fun a=>cellsL (q1 n a))] k 2 k (upd (fun _=>.slice (some ⟨gC,0,none⟩) k cC) 1 (.slice (some ⟨gG,0,none⟩) k k)) Y):=hd <|by
      have h1:=hE.o.congr (Nat.le_refl _) (h':=h) (c':=n2) (Z':=fun a=>cellsL (q2 n a)) (fun a ha=>by
       obtain⟨p1,p2,_⟩:=hpast.o a ha (by omega);exact⟨rfl,by rw[HN2.o];exact p1.symm,by rw[p2]⟩)
      exact h1.see (Nat.le_refl _) h n2 (fun a=>cellsL (q2 n a)) (fun a ha=>⟨rfl,rfl,rfl⟩)
     clear hE hpast hfut hn2;have hBr:=HE2.o.base;go_wp2_with (at_make;refine wpList_mkn _ 31 36 (.slice none 0 0) 1 24 underlying31 info_sll rfl _ _ rfl B _ _ k rfl rfl ?b3 ?b4 hBr ?_)
     case b3=>omega
     case b4=>omega
     intro w3 ho hg;obtain⟨gM,hgM⟩:∃gM,gM=wr.heap.size:=⟨_,rfl⟩
     rw[←hgM]at ho ⊢;obtain⟨Y2,HE3⟩:∃Y2,Hd (Env w w3 B 35 36 2 k h n2 (fun a=>cellsL (q2 n a)) [(h,n2,fun a=>cellsL (q2 n a)),(v,n,fun a=>cellsL (q1 n a))] k 3 k (upd (upd (fun _=>.slice (some ⟨gC,0,none⟩) k cC) 1 (.slice (some ⟨gG,0,none⟩) k k)) 2 (.slice (some ⟨gM,0,none⟩) k k)) (upd Y 2 Y2)):=
      ⟨_,hd (HE2.o.pushT ho (below_of_grown (row:=none) hg) (fun g hg=>by simp[Value.ownBlock]at hg;omega))⟩
     clear ho hg HE2 hgM hBr;go_wp2;go_loopw [68] (fun x wr=>∃(i:Nat) (h':Nat→Value) (c:Nat→Nat) (Z':Nat→List Lb) (Y':Nat→List Value),i≤k∧x=.int .i64 i∧
       Hd (∀a,a<k→a<i→c a=n a+216∧Z' a=q3 n a∧(Y' 2)[a]?=some (h' a))∧Hd (∀a,a<k→i≤a→h' a=h a∧c a=n2 a∧Z' a=q2 n a)∧Hd (Y' 0=(List.range k).map v∧Y' 1=Y 1)∧
       Hd (Env w wr B 35 36 2 k h' c (fun a=>cellsL (Z' a)) [(h,n2,fun a=>cellsL (q2 n a)),(v,n,fun a=>cellsL (q1 n a))] k 3 k (upd (upd (fun _=>.slice (some ⟨gC,0,none⟩) k cC) 1 (.slice (some ⟨gG,0,none⟩) k k)) 2 (.slice (some ⟨gM,0,none⟩) k k)) Y')) (fun x _=>k-(intOf x).toNat)
     case atStart=>exact⟨0,h,n2,q2 n,_,Nat.zero_le _,rfl,hd (fun a _ h=>by omega),hd (fun a _ _=>⟨rfl,rfl,rfl⟩),hd ⟨by rw[upd_ne _ _ _ _ (by decide)];exact hY0.o,by rw[upd_ne _ _ _ _ (by decide)]⟩,HE3⟩
     case round=>
      clear HE3 hlt hi;obtain⟨i,h',c,Z',Y',hi,rfl,hpast,hfut,hY',hE⟩:=hrel;by_cases hlt:i<k
      ·have hG:=hE.o.rows.own 1 (by omega)
       rw[upd_ne _ _ _ _ (by decide),upd_at,hY'.o.2]at hG;obtain⟨hyl,g2⟩:=List.getElem?_eq_some_iff.1 (HY1.o i hlt);have c0:=row_cell hG rfl i hyl;rw[g2]at c0;obtain⟨f1,f2,f3⟩:=hfut.o i hlt (Nat.le_refl _);obtain⟨Ai,ci,hvi⟩:=own_shape (hE.o.lin.own i hlt);rw[f1,f2,HN2.o]at hvi;rw[hvi]at c0;have F1:=hd f1;have F2:=hd f2;have F3:=hd f3;have HV:=hd hvi;have hni:=HN.o i hlt;have hkk:=hk;have hB1:=hE.o.base;clear hvi f1 f2 f3 g2 hG;go_wp2_with (at_make;refine wpList_mkn _ 36 35 (.agg #[.string ⟨#[]⟩,.string ⟨#[]⟩]) 2 32 underlying36 info_label rfl _ _ rfl B _ _ 200 rfl rfl ?b5 ?b6 hB1 ?_)
       case b5=>omega
       case b6=>omega
       intro w4 ho hg;obtain⟨gT,hgT⟩:∃gT,gT=wr.heap.size:=⟨_,rfl⟩
       rw[←hgT]at ho ⊢;rw[show (madeCells #[.string ⟨#[]⟩,.string ⟨#[]⟩] 400).toList=cellsL (List.replicate 200 (⟨#[]⟩,⟨#[]⟩)) from made2 200 _ _]at ho;obtain⟨X0,HE4⟩:∃X0:List Lb,Hd (Env w w4 B 35 36 2 (k+1) (upd h' k (.slice (some ⟨gT,0,none⟩) 200 200)) (upd c k 200) (fun a=>cellsL (upd Z' k X0 a)) [(h,n2,fun a=>cellsL (q2 n a)),(v,n,fun a=>cellsL (q1 n a))] k 3 k (upd (upd (fun _=>.slice (some ⟨gC,0,none⟩) k cC) 1 (.slice (some ⟨gG,0,none⟩) k k)) 2 (.slice (some ⟨gM,0,none⟩) k k)) Y'):=
        ⟨_,hd (by rw[←updC];exact hE.o.pushE (Nat.le_refl _) ho (below_of_grown (row:=none) hg) (fun g hg=>by simp[Value.ownBlock]at hg;omega))⟩
       clear ho hg hgT hB1 c0;go_wp2;go_loopw [76] (fun y wr=>∃(j:Nat) (Q:List Lb),j≤200∧y=.int .i64 j∧Hd (Q.take j=List.replicate j (mkL 3 i))∧
         Hd (Env w wr B 35 36 2 (k+1) (upd h' k (.slice (some ⟨gT,0,none⟩) 200 200)) (upd c k 200) (fun a=>cellsL (upd Z' k Q a)) [(h,n2,fun a=>cellsL (q2 n a)),(v,n,fun a=>cellsL (q1 n a))] k 3 k (upd (upd (fun _=>.slice (some ⟨gC,0,none⟩) k cC) 1 (.slice (some ⟨gG,0,none⟩) k k)) 2 (.slice (some ⟨gM,0,none⟩) k k)) Y')) (fun y _=>200-(intOf y).toNat)
       case atStart=>exact⟨0,X0,Nat.zero_le _,rfl,hd rfl,HE4⟩
       case round=>
        clear HE4;obtain⟨j,Q,hj,rfl,hq,hF⟩:=hrel;have own:=hF.o.lin.own k (by omega);simp only[upd_at]at own;have hql:=own_len own;by_cases hj2:j<200
        ·have HQ:=hd hql
         have HOW:=hd own;clear own hql;go_wp2_with (go_at_call 43;refine(mark_any i 3 _ (by omega) (by decide)).mono ?_;rintro e w5 ⟨rfl,hb5⟩;have HE5:=hd (hF.o.below hb5);obtain⟨e1,e2,e3,e4⟩:=own_at (own_below HOW.o hb5) j (by rw[HQ.o];exact hj2);have HS:=hd (own_set (own_below HOW.o hb5) j (mkA i) (mkB 3));clear hb5;generalize Q[j]'_=old at *;obtain⟨old1,old2⟩:=old;simp only at e1 e2)
         go_roundw
         case rel=>
          refine⟨j+1,Q.set j (mkL 3 i),by omega,by go_num,hd (ltake_set hq.o (by rw[HQ.o];exact hj2)),hd ?_⟩;have h1:=HE5.o.putLast (w':=_) (by decide) (Nat.le_refl _) (Z1:=cellsL (Q.set j (mkL 3 i))) (by simp only[upd_at];exact HS.o.1) (by simp only[upd_at];exact HS.o.2);rw[updC,upd_upd]at h1;exact h1
         case measure=>simp[intOf];omega
        ·have HQ:Hd (Q=m200 i):=hd (ltake_all (by rw[←show j=200 by omega];exact hq.o) (by omega))
         have hB1:=hF.o.base;have HO:=hd own;clear own hql hq;go_wp2_with (at_builtin;refine wpList_app_keep _ 36 35 (.agg #[.string ⟨#[]⟩,.string ⟨#[]⟩]) 2 32 underlying36 info_label rfl (by decide) rfl _ _ rfl B (.slice Ai (n i+16) ci) (n i+16) (cellsL (q2 n i)) rfl ?q1 (.slice (some ⟨gT,0,none⟩) 200 200) 200 (cellsL (m200 i)) rfl ?q2 ?q3 ?q4 ?q5 hB1 ?_)
         case q1=>
          have:=hF.o.lin.own i (by omega);simp only[upd_ne _ _ _ _ (show i≠k by omega)]at this;rw[F1.o,F2.o,F3.o,HN2.o,HV.o]at this;exact this
         case q2=>rw[←HQ.o];exact IsL.own HO.o
         case q3=>exact cellsL_one _
         case q4=>omega
         case q5=>omega
         intro v' w' ho hg hk' hat;rw[←cellsL_app,show q2 n i++m200 i=q3 n i from rfl]at ho;obtain⟨A',cap',rfl⟩:=own_shape ho;have HE5:Hd (Env w w' B 35 36 2 k (upd h' i (.slice A' (n i+16+200) cap')) (upd c i (n i+16+200)) (fun a=>cellsL (upd Z' i (q3 n i) a)) [(h,n2,fun a=>cellsL (q2 n a)),(v,n,fun a=>cellsL (q1 n a))] k 3 k (upd (upd (fun _=>.slice (some ⟨gC,0,none⟩) k cC) 1 (.slice (some ⟨gG,0,none⟩) k k)) 2 (.slice (some ⟨gM,0,none⟩) k k)) Y'):=hd <|by
          have hii:upd h' k (.slice (some ⟨gT,0,none⟩) 200 200) i=.slice Ai (n i+16) ci:=(by rw[upd_ne _ _ _ _ (by omega),F1.o,HV.o]);have hcc:upd c k 200 i=n i+16:=(by rw[upd_ne _ _ _ _ (by omega),F2.o,HN2.o]);have h1:=hF.o.stepE (i:=i) (by decide) ho (by rw[hii];exact hg) (by rw[hii,hcc];exact hk') (by rw[hii];exact hat) (by omega) (by rw[hcc];omega);refine h1.popE.congr (Nat.le_refl _) (fun a ha=>?_);by_cases hai:a=i
          ·subst hai
           rw[upd_at,upd_at,upd_at,upd_at,upd_at,upd_at];exact⟨rfl,rfl,rfl⟩
          ·rw[upd_ne _ _ _ _ hai,upd_ne _ _ _ _ hai,upd_ne _ _ _ _ hai,upd_ne _ _ _ _ hai,upd_ne _ _ _ _ hai,upd_ne _ _ _ _ hai,upd_ne _ _ _ _ (by omega),upd_ne _ _ _ _ (by omega),upd_ne _ _ _ _ (by omega)]
           exact⟨rfl,rfl,rfl⟩
         clear ho hg hk' hat hF;have hM:=HE5.o.rows.own 2 (by omega);rw[upd_at]at hM;have hyl2:i<(Y' 2).length:=(by have:=hM.1;omega);have c2:=row_cell hM rfl i hyl2;have m1:=hM.frozenAt i;have HS:=hd (hM.stored i (.slice A' (n i+16+200) cap'));have HE6:=hd (HE5.o.stepT (by decide) (i:=2) (by rw[upd_at];exact HS.o.1) (by rw[upd_at];exact HS.o.2) (by omega));have HYL:=hd hyl2;generalize (Y' 2)[i]'hyl2=old at *;clear hM HS HE5 hyl2;go_wp2;go_roundw
         case rel=>
          refine⟨i+1,_,_,_,_,by omega,by go_num,hd (fun a hak hai=>?_),hd (fun a hak hai=>?_),hd ⟨?_,?_⟩,HE6⟩
          ·by_cases hae:a=i
           ·subst hae
            rw[upd_at,upd_at,upd_at,upd_at,set_of_lt HYL.o];exact⟨rfl,rfl,rfl⟩
           ·rw[upd_ne _ _ _ _ hae,upd_ne _ _ _ _ hae,upd_ne _ _ _ _ hae,upd_at,List.getElem?_set_ne (Ne.symm hae)]
            exact hpast.o a hak (by omega)
          ·rw[upd_ne _ _ _ _ (by omega),upd_ne _ _ _ _ (by omega),upd_ne _ _ _ _ (by omega)]
           exact hfut.o a hak (by omega)
          ·rw[upd_ne _ _ _ _ (by decide)];exact hY'.o.1
          ·rw[upd_ne _ _ _ _ (by decide)];exact hY'.o.2
         case measure=>simp[intOf];omega
      ·have HP:Hd (∀a,a<k→c a=n a+216∧Z' a=q3 n a∧(Y' 2)[a]?=some (h' a)):=hd fun a ha=>hpast.o a ha (by omega)
       have HBL:=hd hE.o.bel;have HBZ:=hd hE.o.base;have hle:=label_eq;clear hpast hfut;obtain⟨wo,rfl⟩:∃wo:World,wo=wr:=⟨_,rfl⟩
       go_wp2;go_loopw [94] (fun y wr=>∃i:Nat,i≤k∧y=.int .i64 i∧Hd (Below wo.heap.size wo wr)) (fun y _=>k-(intOf y).toNat)
       case atStart=>exact⟨0,Nat.zero_le _,rfl,hd (Below.refl _ _)⟩
       case round=>
        clear hlt hi;obtain⟨i,hi,rfl,HW⟩:=hrel;by_cases hlt:i<k
        ·obtain⟨p1,p2,p3⟩:=HP.o i hlt
         obtain⟨r1,r2⟩:=range_at v k i hlt;have c0:=row_cell (hE.o.rows.own 0 (by omega)) rfl i (by rw[hY'.o.1];exact r1);simp only[hY'.o.1]at c0;rw[r2]at c0;have hv:wo.ownsRow B 35 2 (v i) (n i) (cellsL (q1 n i)):=(hE.o.vw (v,n,fun a=>cellsL (q1 n a)) (by simp) i hlt).1;have hh2:wo.ownsRow B 35 2 (h i) (n2 i) (cellsL (q2 n i)):=(hE.o.vw (h,n2,fun a=>cellsL (q2 n a)) (by simp) i hlt).1;have hm:=hE.o.lin.own i hlt;rw[HN2.o]at hh2;simp only[p1,p2]at hm;obtain⟨Ai,ci,hvi⟩:=own_shape hv;rw[hvi]at c0 hv;obtain⟨gB,bi,hhi,_,gBl⟩:=hh2.form (by omega);rw[hhi]at hh2
         obtain⟨gD,di,hmi,_,gDl⟩:=hm.form (by omega);rw[hmi]at hm;have c1:wo.cell? ⟨gG,i,none⟩=some (.slice (some ⟨gB,0,none⟩) (n i+16) bi):=by
          have hG:=hE.o.rows.own 1 (by omega);rw[upd_ne _ _ _ _ (by decide),upd_at,hY'.o.2]at hG;obtain⟨hyl,g2⟩:=List.getElem?_eq_some_iff.1 (HY1.o i hlt);have:=row_cell hG rfl i hyl;rw[g2,hhi]at this;exact this
         have c2:wo.cell? ⟨gM,i,none⟩=some (.slice (some ⟨gD,0,none⟩) (n i+216) di):=by
          have hG:=hE.o.rows.own 2 (by omega);rw[upd_at]at hG;obtain⟨hyl,g2⟩:=List.getElem?_eq_some_iff.1 p3;have:=row_cell hG rfl i hyl;rw[g2,hmi]at this;exact this
         have k0:=(HW.o.cell (p:=⟨gC,i,none⟩) (World.block_lt_of_cell? wo _ c0)).trans c0;have hgGl:gG<wo.heap.size:=World.block_lt_of_cell? wo _ c1;have C1:=hd c1;have k2:=(HW.o.cell (p:=⟨gM,i,none⟩) (World.block_lt_of_cell? wo _ c2)).trans c2;have HV:=hd hv;have HH:=hd hh2;have HM:=hd hm;have hni:=HN.o i hlt;have hkk:=hk;clear hv hh2 hm hvi hhi hmi p1 p2 p3 r1 r2 c1 c0 c2;go_wp2;clear k0 k2;go_loopw [104] (fun y wr=>∃j:Nat,j≤n i+216∧y=.int .i64 j∧Hd (Below wo.heap.size wo wr)) (fun y _=>n i+216-(intOf y).toNat)
         case atStart=>exact⟨0,Nat.zero_le _,rfl,HW⟩
         case round=>
          clear HW;obtain⟨j,hj,rfl,HW⟩:=hrel;by_cases hj2:j<n i+216
          ·have l3:=q3_len n i
           have l2:=q2_len n i;have l1:=q1_len n i;obtain⟨t1,t2,t3,t4⟩:=own_at HM.o j (by omega);have m1:=(HW.o.cell (p:=⟨gD,j*2,none⟩) gDl).trans t1;have m2:=(HW.o.cell (p:=⟨gD,j*2+1,none⟩) gDl).trans t2;clear t1 t2 t3 t4;rw[q3_at]at m1 m2;have L1:=hd l1;have L2:=hd l2;have hk0:(0:Int)≤(i:Int):=(by omega);have hk1:(i:Int)<(k:Int):=(by omega);have hj0:(0:Int)≤(j:Int):=(by omega);have hj1:(j:Int)<(n i:Int)+216:=(by omega);clear l1 l2 l3;by_cases h1:j<n i
           ·obtain⟨gA,cA,e1,_,gAl⟩:=HV.o.form (by omega)
            simp only[Value.slice.injEq,true_and]at e1;obtain⟨rfl,rfl⟩:=e1;rw[if_pos h1]at m1 m2;obtain⟨n1,n3,_,_⟩:=own_at HV.o j (by rw[L1.o];exact h1);obtain⟨o1,o2,_,_⟩:=own_at HH.o j (by rw[L2.o];omega);rw[q1_at]at n1 n3;rw[q2_at,if_pos h1]at o1 o2;have N1:=hd n1;have N3:=hd n3;have O1:=hd o1;have O2:=hd o2;clear n1 n3 o1 o2;unfold mkL at m1 m2 N1 N3 O1 O2;simp only at m1 m2 N1 N3 O1 O2;have hjn:(j:Int)<(n i:Int):=(by omega);have hjn2:(j:Int)<(n i:Int)+16:=(by omega);go_wp2_with fail
            refine(mark_any i 1 _ (by omega) (by decide)).mono ?_;rintro e w5 ⟨rfl,hb5⟩;clear m1 m2;have HW5:=hd (HW.o.trans (((Below.refl wr.heap.size wr).alloc (Nat.le_refl _) (.cells #[.string (mkA i),.string (mkB 1)] 35)).trans (hb5.mono (by simp)) |>.mono HW.o.size));have hz5:=HW5.o.size;have x1:w5.cell? ⟨wr.heap.size,0,none⟩=some (.string (mkA i)):=(hb5.cell (p:=⟨wr.heap.size,0,none⟩) (by simp)).trans (by rw[World.cell?_alloc_mark];rfl);have x2:w5.cell? ⟨wr.heap.size,1,none⟩=some (.string (mkB 1)):=(hb5.cell (p:=⟨wr.heap.size,1,none⟩) (by simp)).trans (by rw[World.cell?_alloc_mark];rfl)
            have xl:wr.heap.size<w5.heap.size:=(by have:=hb5.size;simp at this;omega);have y1:=(HW5.o.cell (p:=⟨gA,j*2,none⟩) gAl).trans N1.o;have y2:=(HW5.o.cell (p:=⟨gA,j*2+1,none⟩) gAl).trans N3.o;have y3:=(HW5.o.cell (p:=⟨gB,j*2,none⟩) gBl).trans O1.o;have y4:=(HW5.o.cell (p:=⟨gB,j*2+1,none⟩) gBl).trans O2.o;have y5:=(HW5.o.cell (p:=⟨gG,i,none⟩) hgGl).trans C1.o;have gA5:gA<w5.heap.size:=(by omega);have gB5:gB<w5.heap.size:=(by omega);have gG5:gG<w5.heap.size:=(by omega);have HWF:Hd (Below wo.heap.size wo (w5.alloc (.cells #[.string (mkA i),.string (mkB 1)] 35))):=hd (HW5.o.alloc hz5 _)
            clear hb5;go_wp2_with fail
            go_quiet (fail)
            go_wp2;go_roundw
            case rel=>exact⟨j+1,by omega,by go_num,hd (bel_drew HWF.o _)⟩
            case measure=>simp[intOf];omega
           ·rw[if_neg h1]at m1 m2
            have hjn:(n i:Int)≤(j:Int):=(by omega);have hjn0:decide ((j:Int)<(n i:Int))=false:=(by simp;omega);by_cases h2:j<n i+16
            ·rw[if_pos h2]at m1 m2
             obtain⟨o1,o2,_,_⟩:=own_at HH.o j (by rw[L2.o];omega);rw[q2_at,if_neg h1]at o1 o2;have O1:=hd o1;have O2:=hd o2;clear o1 o2;unfold mkL at m1 m2 O1 O2;simp only at m1 m2 O1 O2;have hjn2:(j:Int)<(n i:Int)+16:=(by omega);go_wp2_with fail
             refine(mark_any i 1 _ (by omega) (by decide)).mono ?_;rintro e w5 ⟨rfl,hb5⟩;clear m1 m2;have hb5r:Below wr.heap.size wr w5:=((Below.refl wr.heap.size wr).alloc (Nat.le_refl _) (.cells #[.string (mkA i),.string (mkB 2)] 35)).trans (hb5.mono (by simp));have HW5:=hd (HW.o.trans (hb5r.mono HW.o.size));have xl:wr.heap.size<w5.heap.size:=(by have:=hb5.size;simp at this;omega);have X5:Hd (Bk w5 wr.heap.size 35 [.string (mkA i),.string (mkB 2)]):=hd (Bk.below (heap_alloc_new wr _) hb5);have hz5:=HW5.o.size;clear hb5 hb5r;go_wp2_with fail
             refine(mark_any i 2 _ (by omega) (by decide)).mono ?_;rintro e w6 ⟨rfl,hb6⟩;have K6:Bk w6 w5.heap.size 35 [.string (mkA i),.string (mkB 1)]:=Bk.below (heap_alloc_new w5 _) hb6;have X6:Bk w6 wr.heap.size 35 [.string (mkA i),.string (mkB 2)]:=(X5.o.below ((Below.refl w5.heap.size w5).alloc (Nat.le_refl _) (.cells #[.string (mkA i),.string (mkB 1)] 35))).below hb6;have s1:=K6.cell 0 (by simp);have s2:=K6.cell 1 (by simp);simp only[List.getElem_cons_zero,List.getElem_cons_succ]at s1 s2;have s3:=K6.frozen 0;have s4:=K6.frozen 1
             have HW6:=hd (HW5.o.trans (((Below.refl w5.heap.size w5).alloc (Nat.le_refl _) (.cells #[.string (mkA i),.string (mkB 1)] 35)).trans (hb6.mono (by simp)) |>.mono HW5.o.size));have HW7:Hd (Below wo.heap.size wo ((w6.setCell ⟨w5.heap.size,0,none⟩ (.string (mkA i))).setCell ⟨w5.heap.size,1,none⟩ (.string (mkB 2)))):=hd ((HW6.o.setCell (p:=⟨w5.heap.size,0,none⟩) HW5.o.size _).setCell (p:=⟨w5.heap.size,1,none⟩) HW5.o.size _);have K7:=hd ((K6.set 0 (.string (mkA i))).set 1 (.string (mkB 2)))
             have X7:=hd ((X6.set_far (p:=⟨w5.heap.size,0,none⟩) (Nat.ne_of_lt xl) (.string (mkA i))).set_far (p:=⟨w5.heap.size,1,none⟩) (Nat.ne_of_lt xl) (.string (mkB 2)));clear K6 X6 hb6;have Y3:=hd ((HW7.o.cell (p:=⟨gB,j*2,none⟩) gBl).trans O1.o);have Y4:=hd ((HW7.o.cell (p:=⟨gB,j*2+1,none⟩) gBl).trans O2.o);have Y5:=hd ((HW7.o.cell (p:=⟨gG,i,none⟩) hgGl).trans C1.o);have y3:=Y3.o;have y4:=Y4.o;have y5:=Y5.o;have z1:=K7.o.cell 0 (by simp);have z2:=K7.o.cell 1 (by simp);have x1:=X7.o.cell 0 (by simp);have x2:=X7.o.cell 1 (by simp)
             simp only[List.getElem_cons_zero,List.getElem_cons_succ,List.set_cons_zero,List.set_cons_succ]at z1 z2 x1 x2;go_wp2_with fail
             go_quiet (fail)
             go_wp2;go_roundw
             case rel=>exact⟨j+1,by omega,by go_num,hd (bel_drew HW7.o _)⟩
             case measure=>simp[intOf];omega
            ·rw[if_neg h2]at m1 m2
             unfold mkL at m1 m2;simp only at m1 m2;have hjn2:(n i:Int)+16≤(j:Int):=(by omega);have hjn3:decide ((j:Int)<(n i:Int)+16)=false:=(by simp;omega);go_wp2_with fail
             refine(mark_any i 1 _ (by omega) (by decide)).mono ?_;rintro e w5 ⟨rfl,hb5⟩;clear m1 m2;have hb5r:Below wr.heap.size wr w5:=((Below.refl wr.heap.size wr).alloc (Nat.le_refl _) (.cells #[.string (mkA i),.string (mkB 3)] 35)).trans (hb5.mono (by simp));have HW5:=hd (HW.o.trans (hb5r.mono HW.o.size));have xl:wr.heap.size<w5.heap.size:=(by have:=hb5.size;simp at this;omega);have X5:Hd (Bk w5 wr.heap.size 35 [.string (mkA i),.string (mkB 3)]):=hd (Bk.below (heap_alloc_new wr _) hb5);have hz5:=HW5.o.size;clear hb5 hb5r;go_wp2_with fail
             refine(mark_any i 2 _ (by omega) (by decide)).mono ?_;rintro e w6 ⟨rfl,hb6⟩;have K6:Bk w6 w5.heap.size 35 [.string (mkA i),.string (mkB 1)]:=Bk.below (heap_alloc_new w5 _) hb6;have X6:Bk w6 wr.heap.size 35 [.string (mkA i),.string (mkB 3)]:=(X5.o.below ((Below.refl w5.heap.size w5).alloc (Nat.le_refl _) (.cells #[.string (mkA i),.string (mkB 1)] 35))).below hb6;have s1:=K6.cell 0 (by simp);have s2:=K6.cell 1 (by simp);simp only[List.getElem_cons_zero,List.getElem_cons_succ]at s1 s2;have s3:=K6.frozen 0;have s4:=K6.frozen 1
             have HW6:=hd (HW5.o.trans (((Below.refl w5.heap.size w5).alloc (Nat.le_refl _) (.cells #[.string (mkA i),.string (mkB 1)] 35)).trans (hb6.mono (by simp)) |>.mono HW5.o.size));have HW7:Hd (Below wo.heap.size wo ((w6.setCell ⟨w5.heap.size,0,none⟩ (.string (mkA i))).setCell ⟨w5.heap.size,1,none⟩ (.string (mkB 2)))):=hd ((HW6.o.setCell (p:=⟨w5.heap.size,0,none⟩) HW5.o.size _).setCell (p:=⟨w5.heap.size,1,none⟩) HW5.o.size _);have K7:=hd ((K6.set 0 (.string (mkA i))).set 1 (.string (mkB 2)))
             have X7:=hd ((X6.set_far (p:=⟨w5.heap.size,0,none⟩) (Nat.ne_of_lt xl) (.string (mkA i))).set_far (p:=⟨w5.heap.size,1,none⟩) (Nat.ne_of_lt xl) (.string (mkB 2)));clear K6 X6 hb6;go_wp2_with fail
             refine(mark_any i 3 _ (by omega) (by decide)).mono ?_;rintro e w8 ⟨rfl,hb8⟩;have K8:=K7.o.below hb8;have X8:=X7.o.below hb8;have s1:=K8.cell 0 (by simp);have s2:=K8.cell 1 (by simp);simp only[List.getElem_cons_zero,List.getElem_cons_succ,List.set_cons_zero,List.set_cons_succ]at s1 s2;have s3:=K8.frozen 0;have s4:=K8.frozen 1;have HW8:=hd (HW7.o.trans (hb8.mono HW7.o.size))
             have HW9:Hd (Below wo.heap.size wo ((w8.setCell ⟨w5.heap.size,0,none⟩ (.string (mkA i))).setCell ⟨w5.heap.size,1,none⟩ (.string (mkB 3)))):=hd ((HW8.o.setCell (p:=⟨w5.heap.size,0,none⟩) HW5.o.size _).setCell (p:=⟨w5.heap.size,1,none⟩) HW5.o.size _);have K9:=hd ((K8.set 0 (.string (mkA i))).set 1 (.string (mkB 3)));have X9:=hd ((X8.set_far (p:=⟨w5.heap.size,0,none⟩) (Nat.ne_of_lt xl) (.string (mkA i))).set_far (p:=⟨w5.heap.size,1,none⟩) (Nat.ne_of_lt xl) (.string (mkB 3)));have y5:=(HW9.o.cell (p:=⟨gG,i,none⟩) hgGl).trans C1.o;have z1:=K9.o.cell 0 (by simp)
             have z2:=K9.o.cell 1 (by simp);have x1:=X9.o.cell 0 (by simp);have x2:=X9.o.cell 1 (by simp);simp only[List.getElem_cons_zero,List.getElem_cons_succ,List.set_cons_zero,List.set_cons_succ]at z1 z2 x1 x2;clear K8 X8 hb8;go_wp2_with fail
             go_quiet (fail)
             go_wp2;go_roundw
             case rel=>exact⟨j+1,by omega,by go_num,hd (bel_drew HW9.o _)⟩
             case measure=>simp[intOf];omega
          ·go_wp2
           go_roundw
           case rel=>exact⟨i+1,by omega,by go_num,HW⟩
           case measure=>simp[intOf];omega
        ·go_wp2
         go_ret;exact⟨rfl,HBL.o.below HW.o HBZ.o⟩
theorem lapart_any (B k gC cC:Nat)(v:Nat→Value)(n:Nat→Nat)(x:Nat→List Lb)(w:World)
  (hC:w.ownsRow B 36 1 (.slice (some ⟨gC,0,none⟩) k cC) k ((List.range k).map v))(L:Lin w B 35 2 k v n (fun a=>cellsL (x a)))(hk:k≤4194304)(hn:∀i,i<k→n i≤4194304)(hB:B≤w.heap.size) :
  Calls prog 15 #[.slice (some ⟨gC,0,none⟩) k cC] w fun e w'=>e=.returned (.bool true)∧Below B w w':=
 (lapart_bl B k gC cC v n x w hC L hk hn hB).mono fun _ _ ⟨h1,h2⟩=>⟨h1,h2.b⟩
end Go.Proofs.YtieknenhfeejiaaGreatDoor
