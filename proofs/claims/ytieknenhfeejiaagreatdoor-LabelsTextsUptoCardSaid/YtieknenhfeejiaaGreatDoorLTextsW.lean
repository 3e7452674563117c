/- What the bound of the second form gives: so many values and letters at the mo .. -/
import Derived.SliceStrings
import Derived.Test.YtieknenhfeejiaaGreatDoorLBraced
import Derived.Test.YtieknenhfeejiaaGreatDoorRlScan
set_option maxRecDepth 100000
set_option maxHeartbeats 8000000
set_option linter.unusedVariables false
set_option linter.unusedSimpArgs false
namespace Go.Proofs.YtieknenhfeejiaaGreatDoor
open _root_.Go.Proofs.Tryz
open Go.RowKit Go.ChangeShapes Go.WideShapes Go.Deep
theorem bulk_nil {H:Type}:Rows.uptoBulkAll ([]:List (DataW H))=0:=by simp[Rows.uptoBulkAll]
theorem bulk_cons {H:Type}(x:DataW H)(r:List (DataW H)):Rows.uptoBulkAll (x::r)=Rows.uptoBulk x+Rows.uptoBulkAll r:=by simp[Rows.uptoBulkAll]
theorem bulk_bound {H:Type}{l:List (DataW H)}(hk:Rows.uptoSmall H l=true):Rows.uptoBulkAll l≤1048576:=of_decide_eq_true hk
theorem bulk_str {H:Type}(l:List UInt8):Rows.uptoBulk (DataW.lit (H:=H) (.string l))=l.length+1:=by simp[Rows.uptoBulk]
theorem bulk_agg {H:Type}(l:List (DataW H)):Rows.uptoBulk (DataW.agg l)=Rows.uptoBulkAll l+1:=by simp[Rows.uptoBulk]
theorem bulk_pos {H:Type}(d:DataW H):1≤Rows.uptoBulk d:=by
 cases d with
 |lit l=>cases l<;>simp[Rows.uptoBulk]
 |nil=>simp[Rows.uptoBulk]
 |ptr d=>simp[Rows.uptoBulk]
 |slice elems spare=>simp[Rows.uptoBulk]
 |agg parts=>simp[Rows.uptoBulk]
 |iface t d=>simp[Rows.uptoBulk]
 |map entries=>simp[Rows.uptoBulk]
 |held h=>simp[Rows.uptoBulk]
theorem bulk_part {H:Type}{d:DataW H}{l:List (DataW H)}(h:d∈l):Rows.uptoBulk d≤Rows.uptoBulkAll l:=by
 induction l with
 |nil=>cases h
 |cons x r ih=>
  rw[bulk_cons];rcases List.mem_cons.1 h with rfl|e
  ·omega
  ·have:=ih e;omega
theorem bulk_len {H:Type}(l:List (DataW H)):l.length≤Rows.uptoBulkAll l:=by
 induction l with
 |nil=>simp
 |cons x r ih=>have:=bulk_pos x;rw[bulk_cons,List.length_cons];omega
theorem bulk_slice {H:Type}(elems spare:List (DataW H)):Rows.uptoBulk (.slice elems spare)=Rows.uptoBulkAll elems+Rows.uptoBulkAll spare+1:=by simp[Rows.uptoBulk]
section
variable {H:Type} {enc:TypeId×Value→H} {w:World} {base:Nat}
end
end Go.Proofs.YtieknenhfeejiaaGreatDoor
namespace Go.Proofs.YtieknenhfeejiaaGreatDoor
open _root_.Go.Proofs.Tryz
open Go.RowKit Go.ChangeShapes Go.WideShapes Go.Deep
section
variable {H:Type} {enc:TypeId×Value→H} {w:World} {base:Nat}
def IsStrs (w:World)(v:Value)(l:List ByteArray):Prop:=
 ∃(A:Option Addr) (c:Nat),v=.slice A l.length c∧l.length≤maxLen∧
  ∀k (h:k<l.length),∃b off,A=some ⟨b,off,none⟩∧w.cell? ⟨b,off+k,none⟩=some (.string (l[k]'h))∧(l[k]'h).size≤1048576
theorem open_strs {P:Program}{t e:TypeId}(ht:P.underlying t=some (.slice e))(he:P.underlying e=some .string)(hce:P.cellsOf e=1){v:Value}{d:DataW H}{p:List MemPlace}
  (hv:Value.okWide P w .any base t v)(h:DataW.Trod enc P w 0 (fun _=>true) true t v d p)(hb:Rows.uptoBulk d≤1048576):∃l,IsStrs w v l:=by
 obtain⟨A,len,cap,rfl⟩:=okWide_slice ht hv;obtain⟨fuel,hf⟩:=h;rcases open_strings ht he hce hf with ⟨hcs,hx⟩|⟨a,len',cap',ss,hcs,_,hl,hm,hz,hx,hi,_⟩
 ·simp[Value.cells]at hcs
  obtain⟨rfl,rfl,rfl⟩:=hcs;exact⟨[],none,0,rfl,by simp,fun k hk=>absurd hk (by simp)⟩
 ·simp[Value.cells]at hcs
  obtain⟨rfl,rfl,rfl⟩:=hcs;simp only[if_true]at hz;simp only[Prod.mk.injEq]at hx;obtain⟨hd,_⟩:=hx;subst hd;have hlen:(ss.take len).length=len:=(by rw[List.length_take];omega);refine⟨ss.take len,some a,cap,by rw[hlen],by omega,fun k hk=>?_⟩;rw[hlen]at hk;have hc:=hi k (by omega);have hget:ss.getD k ByteArray.empty=(ss.take len)[k]'(by omega):=by
   rw[List.getElem_take,List.getD_eq_getElem?_getD,List.getElem?_eq_getElem (by omega)];rfl
  rw[hget]at hc;have ha:a=⟨a.block,a.off,none⟩:=by
   have h0:=hi 0 (by omega);rw[show a.add 0=a from by simp[Addr.add]]at h0;exact plain_of_cell h0
  refine⟨a.block,a.off,by rw[←ha],?_,?_⟩
  ·rw[ha,add_plain]at hc;exact hc
  ·rw[bulk_slice]at hb
   have hm2:(DataW.lit (H:=H) (.string ((ss.take len)[k]'(by omega)).data.toList))∈strs (H:=H) (ss.take len):=by
    unfold strs;exact List.mem_map.2 ⟨_,List.getElem_mem _,rfl⟩
   have:=bulk_part hm2;rw[bulk_str,←Lib.size_eq]at this;omega
end
end Go.Proofs.YtieknenhfeejiaaGreatDoor
namespace Go.Proofs.YtieknenhfeejiaaGreatDoor
open _root_.Go.Proofs.Tryz
open Go.RowKit Go.ChangeShapes Go.WideShapes Go.Deep
section
variable {H:Type} {enc:TypeId×Value→H} {w:World} {base:Nat}
def IsLbs (w:World)(v:Value)(l:List Lb):Prop:=IsL 2 w v l.length (cellsL l)∧l.length*32≤reachBytes
def IsLbss (w:World)(v:Value)(l:List (List Lb)):Prop:=
 ∃(A:Option Addr) (c:Nat),v=.slice A l.length c∧l.length≤maxLen∧
  ∀i (h:i<l.length),∃b off x,A=some ⟨b,off,none⟩∧w.cell? ⟨b,off+i,none⟩=some x∧IsLbs w x (l[i]'h)
end
end Go.Proofs.YtieknenhfeejiaaGreatDoor
namespace Go.Proofs.YtieknenhfeejiaaGreatDoor
open _root_.Go.Proofs.Tryz
open Go.RowKit Go.ChangeShapes Go.WideShapes Go.Deep
section
variable {H:Type} {enc:TypeId×Value→H} {w:World} {base:Nat}
def SmL (l:List Lb):Prop:=l.length≤1048576∧∀y∈l,y.1.size≤1048576∧y.2.size≤1048576
theorem open_lbsC {fuel:Nat}{v:Value}{x:DataW H×List MemPlace}(h:DataW.trod enc prog w 0 (fun _=>true) true fuel 36 [v]=some x)
  (hb:Rows.uptoBulk x.1≤1048576):∃l A c,v=.slice A l.length c∧IsL 2 w v l.length (cellsL l)∧SmL l∧l.length≤c:=by
 rcases open_slice_fields underlying36 underlying35 (by kernel_rfl) (by kernel_rfl) h with ⟨hcs,hx⟩|⟨a,len,cap,m,D,Pl,hcs,_,hl,hm,hmm,hx,hi⟩
 ·obtain rfl:v=.slice none 0 0:=by simpa using hcs
  exact⟨[],none,0,rfl,IsL.nil 2 w none 0,⟨by simp,fun y hy=>by cases hy⟩,Nat.le_refl _⟩
 ·obtain rfl:v=.slice (some a) len cap:=by simpa using hcs
  subst hx;simp only at hb;rw[bulk_slice]at hb;have each:∀i,i<len→∃y:Lb,(w.cell? (a.add (i*2))=some (.string y.1)∧w.cell? (a.add (i*2+1))=some (.string y.2))∧y.1.size≤1048576∧y.2.size≤1048576:=by
   intro i hil;obtain⟨ys,n,hD,_,hyl,hfs⟩:=hi i (by simp only[if_true]at hmm;omega);obtain⟨v0,y0,c0,e0,t0⟩:=hfs 0 _ rfl;obtain⟨v1,y1,c1,e1,t1⟩:=hfs 1 _ rfl;obtain⟨s,hs,hy0,_⟩:=DataW.trod_string underlying9 t0;obtain⟨z,hz,hy1,_⟩:=DataW.trod_string underlying9 t1;simp at hs hz;subst hs;subst hz;have hys:D i=.agg [.lit (.string s.data.toList),.lit (.string z.data.toList)]:=by
    rw[hD];have hy2:ys.length=2:=hyl
    match ys,hy2 with
    |[a0,a1],_=>
     simp at e0 e1;subst e0;subst e1;rw[hy0,hy1];rfl
   have hp:=bulk_part (d:=D i) (l:=(List.range len).map D) (List.mem_map.2 ⟨i,List.mem_range.2 hil,rfl⟩);rw[hys,bulk_agg,bulk_cons,bulk_cons,bulk_nil,bulk_str,bulk_str,←Lib.size_eq,←Lib.size_eq]at hp;exact⟨(s,z),⟨c0,c1⟩,by show s.size≤_;omega,by show z.size≤_;omega⟩
  obtain⟨l,hlen,hR⟩:=list_of len _ each;subst hlen;have hbl:=bulk_len ((List.range l.length).map D);rw[List.length_map,List.length_range]at hbl;refine⟨l,some a,cap,rfl,⟨cellsL_len l,some a,cap,rfl,fun k hk=>?_⟩,⟨by omega,fun y hy=>?_⟩,hl⟩
  ·rw[cellsL_len]at hk
   have ha:a=⟨a.block,a.off,none⟩:=by
    have:=(hR 0 (by omega)).1.1;rw[Nat.zero_mul]at this;have e:a.add 0=a:=(by simp[Addr.add]);rw[e]at this;exact plain_of_cell this
   refine⟨a.block,a.off,congrArg some ha,?_⟩;obtain⟨⟨r1,r2⟩,_⟩:=hR (k/2) (by omega);obtain⟨e1,e2⟩:=cellsL_at l (k/2) (by omega);rw[ha,add_plain]at r1 r2;rw[←List.getElem?_eq_getElem];rcases Nat.mod_two_eq_zero_or_one k with h0|h0
   ·have hk2:k/2*2=k:=by omega
    rw[hk2]at r1 e1;rw[r1,e1]
   ·have hk2:k/2*2+1=k:=by omega
    rw[hk2]at r2 e2;rw[r2,e2]
  ·obtain⟨k,hk,rfl⟩:=List.mem_iff_getElem.1 hy
   exact(hR k hk).2
end
end Go.Proofs.YtieknenhfeejiaaGreatDoor
namespace Go.Proofs.YtieknenhfeejiaaGreatDoor
open _root_.Go.Proofs.Tryz
open Go.RowKit
theorem Lin.pushNew {w w':World}{B:Nat}{e:TypeId}{size k:Nat}{h:Nat→Value}{c:Nat→Nat}{Z:Nat→List Value}(L:Lin w B e size k h c Z){T:Value}{c1:Nat}{Z1:List Value}
  (ho:w'.ownsRow w.heap.size e size T c1 Z1)(hb:Below w.heap.size w w')(hB:B≤w.heap.size):Lin w' B e size (k+1) (upd h k T) (upd c k c1) (upd Z k Z1):=
 L.push (own_mono ho hB) hb (fun g hg=>(ho.lt g hg).1)
theorem kMet_fine {t:SC.Tk}(h:SC.fine t):SC.kMet t=(decide (t.kind=1) ||(decide (t.kind=2) ||(decide (t.kind=3) && decide (65≤U.at' t.text 0)))):=by
 unfold SC.kMet;by_cases h3:t.kind=3
 ·rw[h.2 h3];simp[h3]
 ·by_cases h1:t.kind=1
  ·simp[h1]
  ·simp[h1,h3]
theorem own_cap {w:World}{B:Nat}{e:TypeId}{size n c:Nat}{A:Option Addr}{xs:List Value}(h:w.ownsRow B e size (.slice A n c) n xs):n≤c:=by
 rcases h.2 with ⟨h1,h2⟩|⟨g,cap,cur,h1,_,_,hle,_⟩
 ·omega
 ·simp only[Value.slice.injEq,true_and]at h1
  obtain⟨_,rfl⟩:=h1;exact hle
theorem rdB_small:∀(R:List SC.Tk) (P:List Lb),SC.rdB R=some P→P.length≤R.length∧∀y∈P,∃a∈R,∃v∈R,y.1=a.text∧y.2=SC.uq v
 |[],P,h=>by
  have:P=[]:=(Option.some.inj h).symm;subst this;exact⟨Nat.le_refl _,fun y hy=>by cases hy⟩
 |[_],P,h=>by cases h
 |[_,_],P,h=>by cases h
 |[a,b,v],P,h=>by
  cases ht:SC.tri a b v with
  |false=>rw[SC.rdB_no ht]at h;cases h
  |true=>
   rw[SC.rdB_end ht]at h;simp only[Option.some.injEq]at h;subst h;exact⟨by simp,fun y hy=>by rw[List.mem_singleton]at hy;subst hy;exact⟨a,by simp,v,by simp,rfl,rfl⟩⟩
 |a::b::v::c::R,P,h=>by
  cases ht:SC.tri a b v with
  |false=>rw[SC.rdB_no ht]at h;cases h
  |true=>
   cases hc:SC.isOp c 44 with
   |false=>rw[SC.rdB_sep ht hc]at h;cases h
   |true=>
    rw[SC.rdB_go ht hc]at h;cases hr:SC.rdB R with
    |none=>rw[hr]at h;cases h
    |some Q=>
     rw[hr]at h;simp only[Option.map_some,Option.some.injEq]at h;subst h;obtain⟨h1,h2⟩:=rdB_small R Q hr;refine⟨by simp only[List.length_cons];omega,fun y hy=>?_⟩;rcases List.mem_cons.1 hy with rfl|hy
     ·exact⟨a,by simp,v,by simp,rfl,rfl⟩
     ·obtain⟨a',ha,v',hv,e1,e2⟩:=h2 y hy
      exact⟨a',by simp[ha],v',by simp[hv],e1,e2⟩
theorem braced_len (T:List SC.Tk)(k:Nat):((SC.bracedA T k).getD []).length≤T.length:=by
 by_cases h:k+2≤T.length
 ·rw[SC.braced_eq h]
  split
  ·cases hr:SC.rdB (SC.seg T (k+1) (T.length-1)) with
   |none=>simp
   |some P=>
    have:=(rdB_small _ P hr).1;rw[SC.seg_len (by omega)]at this;simp only[Option.getD_some];omega
  ·simp
 ·rw[SC.braced_short (by omega)];simp
theorem braced_size (T:List SC.Tk)(k:Nat)(hT:∀t∈T,t.text.size≤1048576):∀y∈(SC.bracedA T k).getD [],y.1.size≤1048576∧y.2.size≤1048576:=by
 by_cases h:k+2≤T.length
 ·rw[SC.braced_eq h]
  split
  ·cases hr:SC.rdB (SC.seg T (k+1) (T.length-1)) with
   |none=>intro y hy;cases hy
   |some P=>
    intro y hy;obtain⟨a,ha,v,hv,e1,e2⟩:=(rdB_small _ P hr).2 y hy;have hm:∀t∈SC.seg T (k+1) (T.length-1),t∈T:=fun t ht=>List.mem_of_mem_take (List.mem_of_mem_drop ht)
    rw[e1,e2];exact⟨hT a (hm a ha),Nat.le_trans (SC.uq_size v) (hT v (hm v hv))⟩
  ·intro y hy;cases hy
 ·rw[SC.braced_short (by omega)];intro y hy;cases hy
theorem lrefread_any (s:ByteArray)(w:World)(hs:s.size≤1048576) :
  Calls prog 13 #[.string s] w fun e w'=>L.RdA w (L.rdR s) e w':=by
 have HS:=hd hs;have CS:=hd (rlscan_any s w (by omega));have HSC:Hd (SC.scan s=SC.go s 0 false false):=hd (by unfold SC.scan;rw[if_neg (by omega)]);have HRR:Hd (L.rdR s=match SC.go s 0 false false with| .bad _ e=>([],e)| .ok T=>L.rdAns (SC.rd T)):=hd (by unfold L.rdR;rw[HSC.o];try(cases SC.go s 0 false false<;>rfl));rw[HSC.o]at CS;clear hs;cases hg:SC.go s 0 false false with
 |bad p er=>
  obtain⟨her,hp⟩:=SC.go_err s _ 0 false false p er rfl hg;have heN:(er !=0)=true:=by(rw[bne_iff_ne];omega)
  rw[hg]at CS HRR;clear her hg HSC;go_enter func13,ntmps13;go_wp2_with fail
  refine CS.o.mono ?_;rintro e1 w1 ⟨rfl,hb⟩;go_wp2;go_ret2;exact L.rdA_nil HRR.o hb
 |ok T=>
  obtain⟨hsm,hlen⟩:=SC.go_small s _ 0 false false T rfl hg;have HSM:=hd (fun t ht=>Nat.le_trans (hsm t ht).1 HS.o);have HFN:=hd (SC.go_fine s _ 0 false false T rfl hg);have hTl:T.length≤1048576:=(by have:=HS.o;omega);rw[hg]at CS HRR;clear hg HSC hsm hlen;simp only at HRR;cases T with
  |nil=>
   rw[SC.rd_nil]at HRR;go_enter func13,ntmps13;go_wp2_with fail
   refine CS.o.mono ?_;rintro e1 w1 ⟨v,rfl,hown,hb⟩;obtain⟨A,c,rfl⟩:=own_shape hown;clear hown CS;go_wp2;go_ret2;exact L.rdA_nil HRR.o hb
  |cons t0 T0=>
   have h0T:0<(t0::T0).length:=(by simp);have hT0e:(t0::T0)[0]'h0T=t0:=rfl;have ht0:=HSM.o t0 (by simp);have hfn:=HFN.o t0 (by simp);have HKM:=hd (kMet_fine hfn);have hz0:=hfn.1;have HM1:=hd (fun (h:SC.kMet t0=true) (hr:T0≠[])=>SC.rd_met h hr);have HM0:=hd (fun (h:SC.kMet t0=true) (hr:T0=[])=>(by rw[hr];exact SC.rd_one h:SC.rd (t0::T0)=some [(SC.nmB,t0.text)]));have HN:=hd (fun (h:SC.kMet t0=false)=>SC.rd_no (r:=T0) h);have HT0:Hd (T0=[]↔(t0::T0).length=1):=hd (by rw[List.length_cons];constructor;intro h;rw[h];rfl;intro h;exact List.eq_nil_of_length_eq_zero (by omega))
   generalize hT:t0::T0=T at *;clear hT hfn HFN;go_enter func13,ntmps13;go_wp2_with fail
   refine CS.o.mono ?_;rintro e1 w1 ⟨v,rfl,hown,hb⟩;obtain⟨g,c,rfl,hBg,hgz,hnc⟩:=tok_own hown h0T;have HT:=hd hown;have HB1:=hd hb;obtain⟨d0,d1,d2⟩:=tok_cells hown 0 h0T;simp only[Nat.zero_mul,Nat.zero_add,hT0e]at d0 d1 d2;have h0I:((T.length:Int)==0)=false:=(by rw[bf];omega);clear hown hb CS;go_upto_region 8 with fail
   go_cut [44] from 27 to 44 (fun x wx=>x=.bool (SC.kMet t0)∧Hd (Below w1.heap.size w1 wx))
   case first=>
    have HBR:Hd (Below w1.heap.size w1 w1):=hd (Below.refl _ _);clear HM1 HM0 HN HT0 HT HB1 HRR HSM;by_cases h1:t0.kind=1
    ·have e1:((t0.kind:Int)==1)=true:=by rw[h1];rfl
     have HK:Hd (SC.kMet t0=true):=hd (by rw[HKM.o];simp[h1]);clear h1 HKM;go_wp2;go_meet;exact⟨by rw[HK.o],HBR⟩
    ·have e1:((t0.kind:Int)==1)=false:=by rw[bf];omega
     by_cases h2:t0.kind=2
     ·have e2:((t0.kind:Int)==2)=true:=by rw[h2];rfl
      have HK:Hd (SC.kMet t0=true):=hd (by rw[HKM.o];simp[h2]);clear h1 h2 HKM;go_wp2;go_meet;exact⟨by rw[HK.o],HBR⟩
     ·have e2:((t0.kind:Int)==2)=false:=by rw[bf];omega
      by_cases h3:t0.kind=3
      ·have e3:((t0.kind:Int)==3)=true:=by rw[h3];rfl
       obtain⟨b,hb⟩:∃b,b=(t0.text[0]'hz0).toNat:=⟨_,rfl⟩
       have HK:Hd (SC.kMet t0=decide (65≤b)):=hd (by rw[HKM.o,hb,U.at_eq t0.text 0 hz0];simp[h3]);clear h1 h2 h3 HKM;by_cases h65:65≤b
       ·have h65I:(65:Int)≤(b:Int):=by omega
        have HK2:Hd (SC.kMet t0=true):=hd (by rw[HK.o];simp[h65]);have hb':=hb.symm;clear hb HK h65;go_wp2;go_meet;exact⟨by rw[HK2.o],HBR⟩
       ·have h65I:¬ (65:Int)≤(b:Int):=by omega
        have HK2:Hd (SC.kMet t0=false):=hd (by rw[HK.o];simp[h65]);have hb':=hb.symm;clear hb HK h65;go_wp2;go_meet;exact⟨by rw[HK2.o],HBR⟩
      ·have e3:((t0.kind:Int)==3)=false:=by rw[bf];omega
       have HK:Hd (SC.kMet t0=false):=hd (by rw[HKM.o];simp[h1,h2,h3]);clear h1 h2 h3 HKM;go_wp2;go_meet;exact⟨by rw[HK.o],HBR⟩
   case rest=>
    obtain⟨rfl,HB2⟩:=hcut;have HT2:=hd (own_below HT.o HB2.o);have hz1:=HB1.o.size;have HBW:=hd (HB1.o.trans (HB2.o.mono hz1));have hzc:=HBW.o.size;have hgc:g<wc.heap.size:=Nat.lt_of_lt_of_le hgz HB2.o.size;clear HT HB1 HB2 HKM d0 d1 d2 hgz hz1;by_cases hone:SC.kMet t0=true∧T0=[]
    ·obtain⟨hm,ht⟩:=hone
     have hT1:T.length=1:=HT0.o.1 ht;have HRD:=hd (HM0.o hm ht);rw[HRD.o]at HRR;rw[hm,hT1];obtain⟨d0,d1,d2⟩:=tok_cells HT2.o 0 h0T;simp only[Nat.zero_mul,Nat.zero_add,hT0e]at d0 d1 d2;clear hm ht HM0 HM1 HN HT0 HRD;have HL0:=hd (LR.nil HBW.o);go_wp2_with (at_builtin;refine wp_lr_lit rfl _ _ rfl w wc _ [] SC.nmB t0.text HL0.o (by simp) _ rfl rfl rfl ?_)
     intro v3 w3 h3 hg3;obtain⟨A3,c3,rfl⟩:=own_shape h3.own;have HL3:Hd (LR w w3 (.slice A3 1 c3) [(SC.nmB,t0.text)]):=hd h3;clear h3 hg3 d0 d1 d2;have HMK:=hd (refMake_any A3 1 c3 [(SC.nmB,t0.text)] w3 (IsL.own HL3.o.own) (own_cap HL3.o.own) (by omega) (by intro y hy;simp at hy;subst hy;exact⟨by simp only;decide,by simp only;omega⟩));go_wp2_with fail
     all_goals
      refine HMK.o.mono ?_;rintro e4 w4 ⟨x,rfl,ho4,hb4⟩;have HF:=hd (rdA_mk HRR.o HL3.o.bel ho4 hb4);obtain⟨A4,c4,rfl⟩:=own_shape ho4;clear ho4 hb4 HMK;go_wp2;go_ret2;exact HF.o
    ·go_upto_if 44 with fail
     go_cut [4,7] from 44 to 61 (fun tk o wx=>∃(k f m cc:Nat) (P:List Lb),tk=.slice (some ⟨g,f,none⟩) m cc∧m≤cc∧Hd (f=k*3∧k+m=T.length)∧Hd (P.length≤k)∧Hd (∀y∈P,y.1.size≤1048576∧y.2.size≤1048576)∧Hd (SC.rd T=(SC.bracedA T k).map (P++·))∧Hd (LR w wx o P)∧Hd (wx.ownsRow w.heap.size 53 3 (.slice (some ⟨g,0,none⟩) T.length c) T.length (SC.cellsT T)))
     case first=>
      cases hm:SC.kMet t0 with
      |true=>
       have ht:T0≠[]:=fun e=>hone ⟨hm,e⟩
       have hT2:T.length≠1:=fun e=>ht (HT0.o.2 e)
       have HRD:=hd (HM1.o hm ht);have HL0:=hd (LR.nil HBW.o);obtain⟨d0,d1,d2⟩:=tok_cells HT2.o 0 h0T;simp only[Nat.zero_mul,Nat.zero_add,hT0e]at d0 d1 d2;have hnI:(((T.length-1:Nat):Int)==0)=false:=(by rw[bf];omega);have hnJ:((T.length:Int)-1==0)=false:=(by rw[bf];omega);have ht1:=ht0;clear ht hone HM1 HM0 HN HT0;go_wp2_with (at_builtin;refine wp_lr_lit rfl _ _ rfl w wc _ [] SC.nmB t0.text HL0.o (by simp) _ rfl rfl rfl ?_)
       intro v3 w3 h3 hg3;have HL3:=hd h3;have HT3:=hd (HT2.o.kept hg3 (own_type_ne HT2.o HL0.o.own (by decide)));clear h3 hg3 d0 d1 d2;have h1I:(1:Int)≤(T.length:Int):=(by omega);have hc1:¬ c=1:=(by omega);go_wp2;go_meet;exact⟨1,3,T.length-1,c-1,_,rfl,by omega,hd ⟨rfl,by omega⟩,hd (by simp),hd (by intro y hy;simp at hy;subst hy;exact⟨by simp only;decide,by simp only;omega⟩),HRD,HL3,HT3⟩
      |false=>
       have HRD:=hd (HN.o hm);have HL0:=hd (LR.nil HBW.o);clear hone HM1 HM0 HN HT0;go_wp2;go_meet;exact⟨0,0,T.length,c,_,rfl,hnc,hd ⟨rfl,by omega⟩,hd (by simp),hd (by intro y hy;cases hy),HRD,HL0,HT2⟩
     case rest=>
      obtain⟨k,f,m,cc,P,rfl,hmc,HKM2,HPK,HPS,HRD,HLR,HTT⟩:=hcut;clear HT2 HBW hzc hgc hone HM1 HM0 HN HT0;obtain⟨hfk,hkm⟩:=HKM2.o;have CBR:=hd (rbraced_any T g c k f m cc w.heap.size wc HTT.o hkm (fun _=>hfk) hmc hTl HSM.o h0T);have HBL:=hd (braced_len T k);have HBS:=hd (braced_size T k HSM.o);have hB:=HLR.o.bel;clear hfk hkm;go_wp2_with fail
      refine CBR.o.mono ?_;rintro e5 w5 ⟨x,rfl,ho5,hb5⟩;have HL5:=hd (HLR.o.below hb5);clear CBR HTT HLR;cases hbr:SC.bracedA T k with
      |none=>
       have HR0:Hd (L.rdR s=([],160)):=hd (by rw[HRR.o,HRD.o,hbr];rfl);have HBF:=hd HL5.o.bel;obtain⟨A5,c5,rfl⟩:=own_shape ho5;clear ho5 hb5 hbr;go_wp2;go_ret2;exact L.rdA_nil HR0.o HBF.o
      |some R=>
       have HRP:Hd (L.rdR s=L.rdAns (some (P++R))):=hd (by rw[HRR.o,HRD.o,hbr];rfl);rw[hbr]at ho5 HBL HBS;simp only[Option.getD_some]at ho5 HBL HBS;have HO5:=hd ho5;have hRl:=HBL.o;have hPl:=HPK.o;obtain⟨A5,c5,rfl⟩:=own_shape ho5;clear ho5 hb5 hbr;obtain⟨A7,c7,rfl⟩:=own_shape HL5.o.own;go_wp2_with (at_builtin;refine wp_lr_app rfl _ _ rfl w w5 _ _ P R HL5.o (by have:=HKM2.o.2;omega) (IsL.own HO5.o) (by omega) rfl rfl ?_)
       intro v6 w6 h6 hg6;have HPL:Hd ((P++R).length≤2097152):=hd (by rw[List.length_append];have:=HKM2.o.2;omega);have HPZ:Hd (∀y∈P++R,y.1.size≤1125899906842624∧y.2.size≤1125899906842624):=hd (fun y hy=>by
        rcases List.mem_append.1 hy with h|h
        ·have:=HPS.o y h;omega
        ·have:=HBS.o y h;omega)
       obtain⟨PR,hPR⟩:∃PR,PR=P++R:=⟨_,rfl⟩
       rw[←hPR]at h6 HRP HPL HPZ;clear hPR hRl hPl HBL HBS HPS HPK;have HL6:=hd h6;obtain⟨A8,c8,rfl⟩:=own_shape h6.own;have HMK:=hd (refMake_any A8 PR.length c8 PR w6 (IsL.own h6.own) (own_cap h6.own) (by have:=HPL.o;omega) HPZ.o);clear h6 hg6 HO5 HL5;go_wp2_with fail
       refine HMK.o.mono ?_;rintro e4 w4 ⟨x,rfl,ho4,hb4⟩;have HF:=hd (rdA_mk HRP.o HL6.o.bel ho4 hb4);obtain⟨A4,c4,rfl⟩:=own_shape ho4;clear ho4 hb4 HMK;go_wp2;go_ret2;exact HF.o
end Go.Proofs.YtieknenhfeejiaaGreatDoor
namespace Go.Proofs.YtieknenhfeejiaaGreatDoor
open _root_.Go.Proofs.Tryz
namespace L
theorem made_len (l:List Lb):(made l).length≤l.length:=by
 unfold made;split
 ·exact mkL_len l
 ·simp
end L
end Go.Proofs.YtieknenhfeejiaaGreatDoor
namespace Go.Proofs.YtieknenhfeejiaaGreatDoor
open _root_.Go.Proofs.Tryz
open Go.RowKit
theorem k_text:L.text [(⟨#[95,95,110,97,109,101,95,95]⟩,⟨#[117,112]⟩),(⟨#[97]⟩,⟨#[120]⟩)]=⟨#[117,112,123,97,61,34,120,34,125]⟩:=by decide +kernel
theorem own_cut0 {w:World}{B:Nat}{e:TypeId}{size n c:Nat}{A:Option Addr}{xs:List Value}(h:w.ownsRow B e size (.slice A n c) n xs):w.ownsRow B e size (.slice A 0 c) 0 []:=by
 refine⟨by simp,?_⟩;rcases h.2 with ⟨h1,rfl⟩|⟨g,cap,cur,h1,hB,hg,h3,h4,h5,h6⟩
 ·simp at h1
  obtain⟨rfl,rfl⟩:=h1;exact .inl ⟨rfl,rfl⟩
 ·simp at h1
  obtain⟨rfl,rfl⟩:=h1;exact .inr ⟨g,c,cur,rfl,hB,hg,Nat.zero_le _,h4,h5,by simp⟩
theorem LR.cut {w0 w:World}{A:Option Addr}{P:List Lb}{c:Nat}(h:LR w0 w (.slice A P.length c) P):LR w0 w (.slice A 0 c) []:=⟨own_cut0 h.own,h.bel⟩
theorem rd_len {T:List SC.Tk}{P:List Lb}(h:SC.rd T=some P):P.length≤T.length+1:=by
 cases T with
 |nil=>rw[SC.rd_nil]at h;cases h
 |cons t r=>
  cases hm:SC.kMet t with
  |true=>
   by_cases hr:r=[]
   ·subst hr
    rw[SC.rd_one hm]at h;simp only[Option.some.injEq]at h;subst h;simp
   ·rw[SC.rd_met hm hr]at h
    have:=braced_len (t::r) 1;cases hb:SC.bracedA (t::r) 1 with
    |none=>rw[hb]at h;cases h
    |some Q=>
     rw[hb]at h this;simp only[Option.map_some,Option.some.injEq,Option.getD_some]at h this;subst h;simp only[List.length_append,List.length_cons,List.length_nil]at this ⊢;omega
  |false=>
   rw[SC.rd_no hm]at h;have:=braced_len (t::r) 0;cases hb:SC.bracedA (t::r) 0 with
   |none=>rw[hb]at h;cases h
   |some Q=>
    rw[hb]at h this;simp only[Option.map_some,Option.some.injEq,Option.getD_some]at h this;subst h;simp only[List.nil_append];omega
theorem rdR_len (s:ByteArray)(hs:s.size≤1048576):(L.rdR s).1.length≤1048577:=by
 unfold L.rdR SC.scan;rw[if_neg (by omega)];cases hg:SC.go s 0 false false with
 |bad p e=>simp
 |ok T=>
  have hl:=(SC.go_small s _ 0 false false T rfl hg).2;show (L.rdAns (SC.rd T)).1.length≤_
  cases hr:SC.rd T with
  |none=>show 0≤_;omega
  |some P=>
   have h1:=rd_len hr;have h2:=L.made_len P;show (L.made P).length≤_
   omega
theorem ltexts_walk (va vb:Value)(l:List (List Lb))(ts:List ByteArray)(w:World)(hl:IsLbss w va l)(hSm:∀x∈l,SmL x)(ht:IsStrs w vb ts)(N:Nm2 w) :
  Calls prog 4 #[va,vb] w fun e w'=>e=.returned (.bool true)∧Below w.heap.size w w':=by
 obtain⟨A,c,rfl,hn,hc⟩:=hl;obtain⟨B,cB,rfl,htl,hts⟩:=ht;have HC:=hd hc;have HSm:=hd hSm;have HT:=hd hts;have HN:=hd N;have HK:=hd k_text;unfold maxLen at hn htl;clear hc hSm hts N;go_enter func4,ntmps4;go_wp2_with fail
 refine(ltext_any _ 2 [(⟨#[95,95,110,97,109,101,95,95]⟩,⟨#[117,112]⟩),(⟨#[97]⟩,⟨#[120]⟩)] _ (IsL.own (World.ownsRow_lit (base:=w.heap.size) w #[.string ⟨#[95,95,110,97,109,101,95,95]⟩,.string ⟨#[117,112]⟩,.string ⟨#[97]⟩,.string ⟨#[120]⟩] 2 (Nat.le_refl _) (by decide) rfl)) (by decide) (by decide)).mono ?_;rintro e w1 ⟨rfl,hb1⟩;rw[HK.o];have HB1:=hd (((Below.refl w.heap.size w).alloc (Nat.le_refl _) (.cells #[.string ⟨#[95,95,110,97,109,101,95,95]⟩,.string ⟨#[117,112]⟩,.string ⟨#[97]⟩,.string ⟨#[120]⟩] 35)).trans (hb1.mono (by simp)));have HL1:=hd (LR.nil HB1.o);clear hb1;go_wp2
 go_loopw [5,25] (fun x k wr=>∃(i:Nat) (P:List Lb) (Ax:Option Addr) (cx:Nat),i≤l.length∧k=.int .i64 i∧x=.slice Ax P.length cx∧Hd (LR w wr (.slice Ax P.length cx) P)) (fun _ k _=>l.length-(intOf k).toNat)
 case atStart=>exact⟨0,[],none,0,Nat.zero_le _,rfl,rfl,HL1⟩
 case round=>
  clear HL1 HB1;obtain⟨i,P,Ax,cx,hi,rfl,rfl,HLR⟩:=hrel;by_cases hlt:i<l.length
  ·obtain⟨b,off,x,rfl,c0,hx,hxn⟩:=HC.o i hlt
   have d0:=(HLR.o.bel.cell (p:=⟨b,off+i,none⟩) (World.block_lt_of_cell? w _ c0)).trans c0;have HX:=hd hx;obtain⟨hal,has⟩:=HSm.o _ (List.getElem_mem hlt);clear c0 hx hxn;generalize l[i]'hlt=a at *;obtain⟨A1,c1,rfl⟩:=HX.o.shape;have HAS:=hd has;clear has;go_wp2_with fail
   refine(lreftext_any _ a.length a _ (HX.o.below HLR.o.bel) hal HAS.o).mono ?_;rintro e w2 ⟨rfl,hb2⟩;have HL2:=hd (HLR.o.below hb2);clear hb2 d0 HLR;have HL2c:=hd HL2.o.cut;go_wp2_with (at_builtin;refine wp_lr_app rfl _ _ rfl w w2 _ _ [] a HL2c.o (by simp) (HX.o.below HL2.o.bel) (by omega) rfl rfl ?_)
   intro v3 w3 h3 hg3;have HL3:Hd (LR w w3 v3 a):=hd h3;obtain⟨A3,c3,rfl⟩:=own_shape HL3.o.own;clear h3 hg3 HL2 HL2c;have hbo:((L.text a).toList !=(L.text a).toList)=false:=(by simp);go_wp2_with fail
   refine(ltext_any _ a.length a _ (IsL.own HL3.o.own) hal HAS.o).mono ?_;rintro e w4 ⟨rfl,hb4⟩;have HL4:=hd (HL3.o.below hb4);clear hb4 HL3;go_wp2_with fail
   refine(lsame_any _ _ a.length a.length a a _ (IsL.own HL4.o.own) (HX.o.below HL4.o.bel) (by omega)).mono ?_;rintro e w5 ⟨rfl,hb5⟩;rw[decide_eq_true rfl];have HL5:=hd (HL4.o.below hb5);clear hb5 HL4;go_wp2;go_roundw
   case rel=>exact⟨i+1,a,A3,c3,by omega,by go_num,rfl,HL5⟩
   case measure=>simp[intOf];omega
  ·have HB2:=hd HLR.o.bel
   clear HLR HC HSm HK;go_wp2;go_loopw [48] (fun k wr=>∃(i:Nat),i≤ts.length∧k=.int .i64 i∧Hd (Below w.heap.size w wr)) (fun k _=>ts.length-(intOf k).toNat)
   case atStart=>exact⟨0,Nat.zero_le _,rfl,HB2⟩
   case round=>
    clear HB2;obtain⟨i,hi,rfl,HB⟩:=hrel;by_cases hlt:i<ts.length
    ·obtain⟨b,off,rfl,c0,hsz⟩:=HT.o i hlt
     have d0:=(HB.o.cell (p:=⟨b,off+i,none⟩) (World.block_lt_of_cell? w _ c0)).trans c0;clear c0;generalize ts[i]'hlt=s at *;have HML:=hd (rdR_len s hsz);obtain⟨r,er,hr⟩:∃r er,L.rdR s=(r,er):=⟨_,_,rfl⟩
     have CP:=hd (fun (W:World) (hb:Below w.heap.size w W)=>by have h:=lread_any s W (HN.o.below hb) hsz;rw[hr]at h;exact h);have CR:=hd (fun (W:World)=>by have h:=lrefread_any s W hsz;rw[hr]at h;exact h);rw[hr]at HML;simp only at HML;have hee:(er !=er)=false:=(by simp);clear hr;go_wp2_with fail
     refine(CR.o _).mono ?_;rintro e w2 ⟨xw,rfl,how,hb⟩;obtain⟨Aw,cw,rfl⟩:=own_shape how;have HB2:=hd (bel HB.o hb);have HW2:=hd how;clear how hb d0 HB CR;have HC2:Hd (Below w2.heap.size w2 w2):=hd (Below.refl _ _);have L0:Hd (Lin w2 w2.heap.size 35 2 0 (fun _=>.slice none 0 0) (fun _=>0) (fun _=>cellsL [])):=hd ⟨fun i h=>by omega,fun i j h=>by omega⟩;go_wp2_with fail
     refine(CP.o _ HB2.o).mono ?_;rintro e w3 ⟨x1,rfl,ho,hb⟩;obtain⟨Y1,y1,rfl⟩:=own_shape ho;have L1:=hd (L0.o.pushNew ho hb HC2.o.size);have HC3:=hd (bel HC2.o hb);clear ho hb L0;go_wp2_with fail
     refine(CP.o _ (bel HB2.o HC3.o)).mono ?_;rintro e w4 ⟨x2,rfl,ho,hb⟩;obtain⟨Y2,y2,rfl⟩:=own_shape ho;have L2:=hd (L1.o.pushNew ho hb HC3.o.size);have HC4:=hd (bel HC3.o hb);clear ho hb L1 HC3;have HW4:=hd (IsL.own (own_below HW2.o HC4.o));have HD4:Hd (Below w4.heap.size w4 w4):=hd (Below.refl _ _);have HR1:Hd (IsL 2 w4 (.slice Y1 r.length y1) r.length (cellsL r)):=hd (IsL.own (L2.o.own 0 (by omega)));have HR2:Hd (IsL 2 w4 (.slice Y2 r.length y2) r.length (cellsL r)):=hd (IsL.own (L2.o.own 1 (by omega)));go_wp2_with fail
     refine(lsame_any _ _ _ _ r r _ (HR1.o.below HD4.o) (HW4.o.below HD4.o) (by have:=HML.o;omega)).mono ?_;rintro e w5 ⟨rfl,hb⟩;rw[decide_eq_true rfl];have HD5:=hd (bel HD4.o hb);clear hb HD4;go_wp2_with fail
     refine(lsame_any _ _ _ _ r r _ (HR2.o.below HD5.o) (HW4.o.below HD5.o) (by have:=HML.o;omega)).mono ?_;rintro e w6 ⟨rfl,hb⟩;rw[decide_eq_true rfl];have HD6:=hd (bel HD5.o hb);clear hb HD5;obtain⟨xx,hxx⟩:∃xx:Nat→List Lb,xx=upd (upd (fun _=>[]) 0 r) 1 r:=⟨_,rfl⟩
     have HLX:=hd (show Lin w4 w2.heap.size 35 2 2 _ _ (fun a=>cellsL (xx a)) from by
      rw[hxx];have h:=L2.o;simp only[Nat.zero_add]at h;rw[show (fun _:Nat=>cellsL [])=(fun a=>cellsL ((fun _=>[]) a)) from rfl,updC,updC]at h;exact h)
     clear hxx;have HEK:=hd (bel HC4.o HD6.o);have HLA:=hd ((HLX.o.below HD6.o).below ((Below.refl w6.heap.size w6).alloc (Nat.le_refl _) (.cells #[.slice Y1 r.length y1,.slice Y2 r.length y2] 36)));go_wp2_with fail
     refine(lapart_any w2.heap.size 2 w6.heap.size 2 _ _ xx _ (World.ownsRow_lit w6 #[.slice Y1 r.length y1,.slice Y2 r.length y2] 2 HEK.o.size (by decide) rfl) HLA.o (by decide) ?_ (by have:=HEK.o.size;simp;omega)).mono ?_
     ·intro i hi
      have g1:=HML.o;have h4:i=0∨i=1:=(by omega);rcases h4 with rfl|rfl
      ·exact Nat.le_trans g1 (by decide)
      ·exact Nat.le_trans g1 (by decide)
     rintro e v1 ⟨rfl,hb⟩;have HE1:=hd ((HEK.o.alloc HEK.o.size _).trans hb);clear hb HLA HLX HEK HR1 HR2 HW4 HC4 HD6 L2;go_wp2_with fail
     refine(CP.o _ (bel HB2.o HE1.o)).mono ?_;rintro e v2 ⟨x3,rfl,ho,hb⟩;obtain⟨Y3,y3,rfl⟩:=own_shape ho;have HR3:=hd (IsL.own ho);have HE2:=hd (bel HE1.o hb);have HW5:=hd (IsL.own (own_below HW2.o HE2.o));have HB5:=hd (bel HB2.o HE2.o);clear ho hb HE1 CP;go_wp2_with fail
     refine(lsame_any _ _ _ _ r r _ HR3.o HW5.o (by have:=HML.o;omega)).mono ?_;rintro e v3 ⟨rfl,hb⟩;rw[decide_eq_true rfl];have HB6:=hd (bel HB5.o hb);clear hb;go_wp2;go_roundw
     case rel=>exact⟨i+1,by omega,by go_num,HB6⟩
     case measure=>simp[intOf];omega
    ·go_wp2
     go_ret;exact⟨rfl,HB.o⟩
end Go.Proofs.YtieknenhfeejiaaGreatDoor
