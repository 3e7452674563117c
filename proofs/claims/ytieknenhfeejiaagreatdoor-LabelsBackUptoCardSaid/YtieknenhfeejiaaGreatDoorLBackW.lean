/- What the bound of the second form gives: so many values and letters at the mo .. -/
import Derived.SliceStrings
import Derived.Test.YtieknenhfeejiaaGreatDoorLReadP
import Derived.Test.YtieknenhfeejiaaGreatDoorRlScan
set_option maxHeartbeats 8000000
set_option maxRecDepth 100000
set_option linter.unusedVariables false
set_option linter.unusedSimpArgs false
namespace Go.Proofs.YtieknenhfeejiaaGreatDoor
open _root_.Go.Proofs.Tryz
open Go.RowKit Go.ChangeShapes Go.WideShapes Go.Deep
theorem bulk_nil {H:Type}:Rows.uptoBulkAll ([]:List (DataW H))=0:=by simp[Rows.uptoBulkAll]
theorem bulk_cons {H:Type}(x:DataW H)(r:List (DataW H)):Rows.uptoBulkAll (x::r)=Rows.uptoBulk x+Rows.uptoBulkAll r:=by simp[Rows.uptoBulkAll]
theorem bulk_bound {H:Type}{l:List (DataW H)}(hk:Rows.uptoSmall H l=true):Rows.uptoBulkAll l≤1048576:=of_decide_eq_true hk
theorem bulk_str {H:Type}(l:List UInt8):Rows.uptoBulk (DataW.lit (H:=H) (.string l))=l.length+1:=by simp[Rows.uptoBulk]
theorem bulk_agg {H:Type}(l:List (DataW H)):Rows.uptoBulk (DataW.agg l)=Rows.uptoBulkAll l+1:=by simp[Rows.uptoBulk]
theorem bulk_pos {H:Type}(d:DataW H):1≤Rows.uptoBulk d:=by
 cases d with
 |lit l=>cases l<;>simp[Rows.uptoBulk]
 |nil=>simp[Rows.uptoBulk]
 |ptr d=>simp[Rows.uptoBulk]
 |slice elems spare=>simp[Rows.uptoBulk]
 |agg parts=>simp[Rows.uptoBulk]
 |iface t d=>simp[Rows.uptoBulk]
 |map entries=>simp[Rows.uptoBulk]
 |held h=>simp[Rows.uptoBulk]
theorem bulk_part {H:Type}{d:DataW H}{l:List (DataW H)}(h:d∈l):Rows.uptoBulk d≤Rows.uptoBulkAll l:=by
 induction l with
 |nil=>cases h
 |cons x r ih=>
  rw[bulk_cons];rcases List.mem_cons.1 h with rfl|e
  ·omega
  ·have:=ih e;omega
theorem bulk_len {H:Type}(l:List (DataW H)):l.length≤Rows.uptoBulkAll l:=by
 induction l with
 |nil=>simp
 |cons x r ih=>have:=bulk_pos x;rw[bulk_cons,List.length_cons];omega
theorem bulk_slice {H:Type}(elems spare:List (DataW H)):Rows.uptoBulk (.slice elems spare)=Rows.uptoBulkAll elems+Rows.uptoBulkAll spare+1:=by simp[Rows.uptoBulk]
section
variable {H:Type} {enc:TypeId×Value→H} {w:World} {base:Nat}
end
end Go.Proofs.YtieknenhfeejiaaGreatDoor
namespace Go.Proofs.YtieknenhfeejiaaGreatDoor
open _root_.Go.Proofs.Tryz
open Go.RowKit Go.ChangeShapes Go.WideShapes Go.Deep
section
variable {H:Type} {enc:TypeId×Value→H} {w:World} {base:Nat}
def IsStrs (w:World)(v:Value)(l:List ByteArray):Prop:=
 ∃(A:Option Addr) (c:Nat),v=.slice A l.length c∧l.length≤maxLen∧
  ∀k (h:k<l.length),∃b off,A=some ⟨b,off,none⟩∧w.cell? ⟨b,off+k,none⟩=some (.string (l[k]'h))∧(l[k]'h).size≤1048576
theorem open_strs {P:Program}{t e:TypeId}(ht:P.underlying t=some (.slice e))(he:P.underlying e=some .string)(hce:P.cellsOf e=1){v:Value}{d:DataW H}{p:List MemPlace}
  (hv:Value.okWide P w .any base t v)(h:DataW.Trod enc P w 0 (fun _=>true) true t v d p)(hb:Rows.uptoBulk d≤1048576):∃l,IsStrs w v l:=by
 obtain⟨A,len,cap,rfl⟩:=okWide_slice ht hv;obtain⟨fuel,hf⟩:=h;rcases open_strings ht he hce hf with ⟨hcs,hx⟩|⟨a,len',cap',ss,hcs,_,hl,hm,hz,hx,hi,_⟩
 ·simp[Value.cells]at hcs
  obtain⟨rfl,rfl,rfl⟩:=hcs;exact⟨[],none,0,rfl,by simp,fun k hk=>absurd hk (by simp)⟩
 ·simp[Value.cells]at hcs
  obtain⟨rfl,rfl,rfl⟩:=hcs;simp only[if_true]at hz;simp only[Prod.mk.injEq]at hx;obtain⟨hd,_⟩:=hx;subst hd;have hlen:(ss.take len).length=len:=(by rw[List.length_take];omega);refine⟨ss.take len,some a,cap,by rw[hlen],by omega,fun k hk=>?_⟩;rw[hlen]at hk;have hc:=hi k (by omega);have hget:ss.getD k ByteArray.empty=(ss.take len)[k]'(by omega):=by
   rw[List.getElem_take,List.getD_eq_getElem?_getD,List.getElem?_eq_getElem (by omega)];rfl
  rw[hget]at hc;have ha:a=⟨a.block,a.off,none⟩:=by
   have h0:=hi 0 (by omega);rw[show a.add 0=a from by simp[Addr.add]]at h0;exact plain_of_cell h0
  refine⟨a.block,a.off,by rw[←ha],?_,?_⟩
  ·rw[ha,add_plain]at hc;exact hc
  ·rw[bulk_slice]at hb
   have hm2:(DataW.lit (H:=H) (.string ((ss.take len)[k]'(by omega)).data.toList))∈strs (H:=H) (ss.take len):=by
    unfold strs;exact List.mem_map.2 ⟨_,List.getElem_mem _,rfl⟩
   have:=bulk_part hm2;rw[bulk_str,←Lib.size_eq]at this;omega
end
end Go.Proofs.YtieknenhfeejiaaGreatDoor
namespace Go.Proofs.YtieknenhfeejiaaGreatDoor
open _root_.Go.Proofs.Tryz
open Go.RowKit Go.ChangeShapes Go.WideShapes Go.Deep
section
variable {H:Type} {enc:TypeId×Value→H} {w:World} {base:Nat}
def IsLbs (w:World)(v:Value)(l:List Lb):Prop:=IsL 2 w v l.length (cellsL l)∧l.length*32≤reachBytes
def IsLbss (w:World)(v:Value)(l:List (List Lb)):Prop:=
 ∃(A:Option Addr) (c:Nat),v=.slice A l.length c∧l.length≤maxLen∧
  ∀i (h:i<l.length),∃b off x,A=some ⟨b,off,none⟩∧w.cell? ⟨b,off+i,none⟩=some x∧IsLbs w x (l[i]'h)
end
end Go.Proofs.YtieknenhfeejiaaGreatDoor
namespace Go.Proofs.YtieknenhfeejiaaGreatDoor
open _root_.Go.Proofs.Tryz
open Go.RowKit Go.ChangeShapes Go.WideShapes Go.Deep
section
variable {H:Type} {enc:TypeId×Value→H} {w:World} {base:Nat}
def SmL (l:List Lb):Prop:=l.length≤1048576∧∀y∈l,y.1.size≤1048576∧y.2.size≤1048576
theorem open_lbsC {fuel:Nat}{v:Value}{x:DataW H×List MemPlace}(h:DataW.trod enc prog w 0 (fun _=>true) true fuel 36 [v]=some x)
  (hb:Rows.uptoBulk x.1≤1048576):∃l A c,v=.slice A l.length c∧IsL 2 w v l.length (cellsL l)∧SmL l∧l.length≤c:=by
 rcases open_slice_fields underlying36 underlying35 (by kernel_rfl) (by kernel_rfl) h with ⟨hcs,hx⟩|⟨a,len,cap,m,D,Pl,hcs,_,hl,hm,hmm,hx,hi⟩
 ·obtain rfl:v=.slice none 0 0:=by simpa using hcs
  exact⟨[],none,0,rfl,IsL.nil 2 w none 0,⟨by simp,fun y hy=>by cases hy⟩,Nat.le_refl _⟩
 ·obtain rfl:v=.slice (some a) len cap:=by simpa using hcs
  subst hx;simp only at hb;rw[bulk_slice]at hb;have each:∀i,i<len→∃y:Lb,(w.cell? (a.add (i*2))=some (.string y.1)∧w.cell? (a.add (i*2+1))=some (.string y.2))∧y.1.size≤1048576∧y.2.size≤1048576:=by
   intro i hil;obtain⟨ys,n,hD,_,hyl,hfs⟩:=hi i (by simp only[if_true]at hmm;omega);obtain⟨v0,y0,c0,e0,t0⟩:=hfs 0 _ rfl;obtain⟨v1,y1,c1,e1,t1⟩:=hfs 1 _ rfl;obtain⟨s,hs,hy0,_⟩:=DataW.trod_string underlying9 t0;obtain⟨z,hz,hy1,_⟩:=DataW.trod_string underlying9 t1;simp at hs hz;subst hs;subst hz;have hys:D i=.agg [.lit (.string s.data.toList),.lit (.string z.data.toList)]:=by
    rw[hD];have hy2:ys.length=2:=hyl
    match ys,hy2 with
    |[a0,a1],_=>
     simp at e0 e1;subst e0;subst e1;rw[hy0,hy1];rfl
   have hp:=bulk_part (d:=D i) (l:=(List.range len).map D) (List.mem_map.2 ⟨i,List.mem_range.2 hil,rfl⟩);rw[hys,bulk_agg,bulk_cons,bulk_cons,bulk_nil,bulk_str,bulk_str,←Lib.size_eq,←Lib.size_eq]at hp;exact⟨(s,z),⟨c0,c1⟩,by show s.size≤_;omega,by show z.size≤_;omega⟩
  obtain⟨l,hlen,hR⟩:=list_of len _ each;subst hlen;have hbl:=bulk_len ((List.range l.length).map D);rw[List.length_map,List.length_range]at hbl;refine⟨l,some a,cap,rfl,⟨cellsL_len l,some a,cap,rfl,fun k hk=>?_⟩,⟨by omega,fun y hy=>?_⟩,hl⟩
  ·rw[cellsL_len]at hk
   have ha:a=⟨a.block,a.off,none⟩:=by
    have:=(hR 0 (by omega)).1.1;rw[Nat.zero_mul]at this;have e:a.add 0=a:=(by simp[Addr.add]);rw[e]at this;exact plain_of_cell this
   refine⟨a.block,a.off,congrArg some ha,?_⟩;obtain⟨⟨r1,r2⟩,_⟩:=hR (k/2) (by omega);obtain⟨e1,e2⟩:=cellsL_at l (k/2) (by omega);rw[ha,add_plain]at r1 r2;rw[←List.getElem?_eq_getElem];rcases Nat.mod_two_eq_zero_or_one k with h0|h0
   ·have hk2:k/2*2=k:=by omega
    rw[hk2]at r1 e1;rw[r1,e1]
   ·have hk2:k/2*2+1=k:=by omega
    rw[hk2]at r2 e2;rw[r2,e2]
  ·obtain⟨k,hk,rfl⟩:=List.mem_iff_getElem.1 hy
   exact(hR k hk).2
end
end Go.Proofs.YtieknenhfeejiaaGreatDoor
namespace Go.Proofs.YtieknenhfeejiaaGreatDoor
open _root_.Go.Proofs.Tryz
namespace L
def Dist (l:List Lb):Prop:=l.Pairwise fun x y=>x.1≠y.1
theorem Srt.dist {l:List Lb}(h:Srt l):Dist l:=List.Pairwise.imp (fun h=>lt_ne h) h
structure Sound (l:List Lb):Prop where
 s:Srt l
 ok:∀x∈l,ok1 x=true
theorem vldP_of:∀(l:List Lb) (p:Option ByteArray),Srt l→(∀x∈l,ok1 x=true)→(∀x∈l,ahead p x.1=true)→vldP p l=true
 |[],p,_,_,_=>rfl
 |x::r,p,hs,ho,ha=>by
  have h':=List.pairwise_cons.1 hs;unfold vldP;rw[ho x (List.mem_cons_self ..),ha x (List.mem_cons_self ..),vldP_of r (some x.1) h'.2 (fun y hy=>ho y (List.mem_cons_of_mem _ hy)) (fun y hy=>h'.1 y hy)];rfl
theorem Sound.vld {l:List Lb}(h:Sound l):L.vld l=true:=vldP_of l none h.s h.ok fun _ _=>rfl
theorem Sound.val {l:List Lb}(h:Sound l):∀x∈l,x.2.toList.isEmpty=false:=fun x hx=>by
 have:=h.ok x hx;unfold ok1 at this;simp only[Bool.and_eq_true,Bool.not_eq_true']at this;exact this.1.2
theorem mkErrP_ok:∀(r b:List Lb),mkErrP b r=0→∀x∈r,lab x.1=true∧U.valid x.2=true
 |x::r,b,h,y,hy=>by
  unfold mkErrP at h;split at h
  ·rename_i h1
   split at h
   ·rename_i h2
    rcases List.mem_cons.1 hy with rfl|hy
    ·simp only[Bool.and_eq_true]at h1
     exact⟨h1.1,h2⟩
    ·exact mkErrP_ok r _ h y hy
   ·cases h
  ·cases h
theorem made_sound (l:List Lb):Sound (made l):=by
 unfold made;split
 ·rename_i h
  obtain⟨p,s⟩:=mkL_spec l (mkErr_dist h);refine⟨s,fun x hx=>?_⟩;have hf:=p.mem_iff.1 hx;unfold full at hf;obtain⟨hm,hv⟩:=List.mem_filter.1 hf;obtain⟨h1,h2⟩:=mkErrP_ok l [] h x hm;unfold ok1;rw[h1,h2];simpa using hv
 ·exact⟨List.Pairwise.nil,fun x hx=>by cases hx⟩
theorem made_mem (l:List Lb):∀x∈made l,x∈l:=by
 intro x hx;unfold made at hx;split at hx
 ·rename_i h
  obtain⟨p,s⟩:=mkL_spec l (mkErr_dist h);have hf:=p.mem_iff.1 hx;unfold full at hf;exact(List.mem_filter.1 hf).1
 ·cases hx
theorem made_len (l:List Lb):(made l).length≤l.length:=by
 unfold made;split
 ·exact mkL_len l
 ·simp
end L
end Go.Proofs.YtieknenhfeejiaaGreatDoor
namespace Go.Proofs.YtieknenhfeejiaaGreatDoor
open _root_.Go.Proofs.Tryz
open Go.RowKit
namespace L
theorem mkErrP_good:∀(r b:List Lb),(∀x∈r,lab x.1=true∧U.valid x.2=true)→(b++r).Pairwise (fun x y=>x.1≠y.1)→mkErrP b r=0
 |[],b,_,_=>by unfold mkErrP;rfl
 |x::r,b,h,hd=>by
  unfold mkErrP;have hn:named x.1 b=false:=by
   cases hn:named x.1 b with
   |false=>rfl
   |true=>
    obtain⟨y,hy,e⟩:=(named_iff x.1 b).1 hn;exact absurd e ((List.pairwise_append.1 hd).2.2 y hy x (by simp))
  rw[(h x (by simp)).1,hn,if_pos (show (true && !false)=true from rfl),if_pos (h x (by simp)).2];exact mkErrP_good r (b++[x]) (fun y hy=>h y (List.mem_cons_of_mem _ hy)) (by rw[List.append_assoc];exact hd)
theorem mkErr_good {l:List Lb}(h:∀x∈l,lab x.1=true∧U.valid x.2=true)(hd:Dist l):mkErr l=0:=mkErrP_good l [] h hd
theorem Sound.lv {l:List Lb}(h:Sound l):∀x∈l,lab x.1=true∧U.valid x.2=true:=fun x hx=>by
 have:=h.ok x hx;unfold ok1 at this;simp only[Bool.and_eq_true]at this;exact⟨this.1.1,this.2⟩
theorem full_all {l:List Lb}(h:∀x∈l,x.2.toList.isEmpty=false):full l=l:=by
 unfold full;rw[List.filter_eq_self];intro x hx;rw[h x hx];rfl
theorem Sound.srt {l:List Lb}(h:Sound l):l.Pairwise (fun x y=>lt y.1 x.1=false):=List.Pairwise.imp (fun h=>lt_asymm h) h.s
theorem perm_out:∀ {l:List Lb} {x:Lb},Dist l→x∈l→l.Perm (x::l.filter (fun y=>decide (y.1≠x.1)))
 |[],x,_,h=>by cases h
 |y::r,x,hd,h=>by
  have h1:=List.pairwise_cons.1 hd;rcases List.mem_cons.1 h with rfl|hm
  ·rw[List.filter_cons_of_neg (by simp)]
   have:r.filter (fun z=>decide (z.1≠x.1))=r:=by
    rw[List.filter_eq_self];intro z hz;simpa using (h1.1 z hz).symm
   rw[this]
  ·have hne:y.1≠x.1:=h1.1 x hm
   rw[List.filter_cons_of_pos (by simpa using hne)];exact((perm_out h1.2 hm).cons y).trans (List.Perm.swap x y _)
theorem get_in:∀ {l:List Lb} {n:ByteArray},get n l≠⟨#[]⟩→∃x∈l,x.1=n∧x.2=get n l
 |[],n,h=>absurd rfl h
 |x::r,n,h=>by
  unfold get at h ⊢;by_cases e:x.1=n
  ·rw[if_pos e];exact⟨x,by simp,e,rfl⟩
  ·rw[if_neg e]at h ⊢
   obtain⟨y,hy,h1,h2⟩:=get_in h;exact⟨y,List.mem_cons_of_mem _ hy,h1,h2⟩
def prs (l:List Lb):List Lb:=match (if ahB l then some (get SC.nmB l) else none) with
 |none=>inA (ahB l) l
 |some m=>(SC.nmB,m)::inA (ahB l) l
theorem isMet_ne {m:ByteArray}(h:SC.isMet m=true):m≠⟨#[]⟩:=by
 rintro rfl;exact absurd h (by decide)
theorem prs_ok {l:List Lb}(hS:Sound l):mkErr (prs l)=0∧made (prs l)=l:=by
 unfold prs;cases ha:ahB l with
 |false=>
  rw[if_neg (by decide)];simp only;rw[show inA false l=l from rfl];have h0:=mkErr_good hS.lv hS.s.dist;exact⟨h0,(sorted_made h0 (by rw[full_all hS.val]) hS.srt).symm⟩
 |true=>
  rw[if_pos rfl];simp only;have hm:SC.isMet (get SC.nmB l)=true:=ha;have hne:=isMet_ne hm;obtain⟨x,hx,e1,e2⟩:=get_in hne;have hp:=perm_out hS.s.dist hx;rw[e1]at hp;have hxe:x=(SC.nmB,get SC.nmB l):=Prod.ext e1 e2;rw[hxe]at hp;have hin:inA true l=l.filter (fun y=>decide (y.1≠SC.nmB)):=rfl;rw[hin];have h0:mkErr ((SC.nmB,get SC.nmB l)::l.filter (fun y=>decide (y.1≠SC.nmB)))=0:=by
   refine mkErr_good (fun y hy=>hS.lv y (hp.mem_iff.2 hy)) ?_;exact(List.Perm.pairwise_iff (R:=fun x y:Lb=>x.1≠y.1) (fun h=>Ne.symm h) hp).1 hS.s.dist
  refine⟨h0,(sorted_made h0 ?_ hS.srt).symm⟩;rw[full_all (fun y hy=>hS.val y (hp.mem_iff.2 hy))];exact hp
theorem text_go {l:List Lb}(hS:Sound l):SC.go (text l) 0 false false=.ok (SC.cK (if ahB l then some (get SC.nmB l) else none) (inA (ahB l) l)):=by
 unfold text;rw[text_cT hS.vld];refine SC.go_cT _ _ (fun m hm=>?_) (fun x hx=>hS.lv x (inA_mem hx));cases ha:ahB l with
 |false=>rw[ha,if_neg (by decide)]at hm;cases hm
 |true=>rw[ha,if_pos rfl]at hm;simp only[Option.some.injEq]at hm;subst hm;exact ha
theorem text_rd {l:List Lb}(hS:Sound l):SC.rd (SC.cK (if ahB l then some (get SC.nmB l) else none) (inA (ahB l) l))=some (prs l):=by
 unfold prs;cases ha:ahB l with
 |false=>
  rw[if_neg (by decide)];exact SC.rd_cK none _ (fun m hm=>by cases hm) (fun x hx=>hS.lv x (inA_mem hx))
 |true=>
  rw[if_pos rfl];exact SC.rd_cK (some _) _ (fun m hm=>by simp only[Option.some.injEq]at hm;subst hm;exact ha) (fun x hx=>hS.lv x (inA_mem hx))
theorem text_back {l:List Lb}(hS:Sound l)(hz:(text l).size≤33554432):rdR (text l)=(l,0):=by
 unfold rdR SC.scan;rw[if_neg (by omega),text_go hS];show rdAns (SC.rd _)=_
 rw[text_rd hS];show (made (prs l),mkErr (prs l))=_
 rw[(prs_ok hS).1,(prs_ok hS).2]
theorem text_inj {a b:List Lb}(ha:Sound a)(hb:Sound b)(h:text a=text b):a=b:=by
 have h1:=text_go ha;rw[h,text_go hb]at h1;simp only[SC.Out.ok.injEq]at h1;have h2:=text_rd ha;rw[←h1,text_rd hb]at h2;simp only[Option.some.injEq]at h2;rw[←(prs_ok ha).2,←h2,(prs_ok hb).2]
theorem text_ne {l:List Lb}(hS:Sound l):(text l).toList≠[]:=by
 rw[ByteArray.toList_eq];show textL l≠[]
 rw[text_cT hS.vld];cases ha:ahB l with
 |false=>rw[if_neg (by decide)];unfold SC.cT;simp
 |true=>
  rw[if_pos rfl];unfold SC.cT;simp only;have hm:SC.isMet (get SC.nmB l)=true:=ha;have hne:=isMet_ne hm;have hn:(get SC.nmB l).data.toList≠[]:=fun e=>hne (by
   apply ByteArray.ext;exact Array.toList_inj.1 (by rw[e]))
  split
  ·exact hn
  ·simp[hn]
end L
theorem valid_one (c:UInt8)(h:c<128):U.valid ⟨#[c]⟩=true:=by
 have hs:(⟨#[c]⟩:ByteArray).size=1:=rfl;have hd:Utf8.decode ⟨#[c]⟩ 0=(c.toNat,1):=by
  rw[U.decode_eq,if_pos (by show c.toNat<128;exact h)];rfl
 have hb:U.bad ⟨#[c]⟩ 0=false:=by
  unfold U.bad;rw[hd,bf];intro e;have h1:c.toNat=65533:=congrArg Prod.fst e;have h2:c.toNat<128:=h;omega
 unfold U.valid;rw[U.vfrom_step _ _ (by rw[hs];decide) hb,hd,U.vfrom_end _ _ (by rw[hs];show ¬ (0+1<1);decide)]
def awkL:List Lb:=[(⟨#[98]⟩,⟨#[50]⟩),(⟨#[97]⟩,⟨#[49]⟩)]
theorem awk_err:L.mkErr awkL=0:=by
 unfold L.mkErr awkL;unfold L.mkErrP;rw[if_pos (by decide +kernel),if_pos (valid_one 50 (by decide))];unfold L.mkErrP;rw[if_pos (by decide +kernel),if_pos (valid_one 49 (by decide))];rfl
theorem awk_made:L.made awkL=[(⟨#[97]⟩,⟨#[49]⟩),(⟨#[98]⟩,⟨#[50]⟩)]:=by
 unfold L.made;rw[if_pos awk_err];decide +kernel
theorem awk_get:L.get ⟨#[98]⟩ [(⟨#[97]⟩,⟨#[49]⟩),(⟨#[98]⟩,⟨#[50]⟩)]=⟨#[50]⟩:=by decide +kernel
theorem awake_any (w:World):Calls prog 17 #[] w fun e w'=>e=.returned (.bool true)∧Below w.heap.size w w':=by
 have KE:=hd awk_err;have KM:=hd awk_made;have KG:=hd awk_get;go_enter func17,ntmps17;go_wp2_with fail
 refine(make_any (some ⟨w.heap.size,0,none⟩) 2 2 awkL _ (IsL.own (World.ownsRow_lit (base:=w.heap.size) w #[.string ⟨#[98]⟩,.string ⟨#[50]⟩,.string ⟨#[97]⟩,.string ⟨#[49]⟩] 2 (Nat.le_refl _) (by decide) rfl)) (by decide) (by intro y hy;simp[awkL]at hy;rcases hy with rfl|rfl<;>decide)).mono ?_;rintro e w1 ⟨x,rfl,ho,hb⟩;rw[KE.o];rw[KM.o]at ho;have HL:=hd (IsL.own ho);obtain⟨A,c,rfl⟩:=HL.o.shape;obtain⟨b,off,rfl,hbl,q1,q2⟩:=IsLb.at_ HL.o 0 (by decide);have HB:=hd (((Below.refl w.heap.size w).alloc (Nat.le_refl _) _).trans (hb.mono (by simp)));clear ho hb
 simp only[List.getElem_cons_zero,Nat.zero_mul,Nat.add_zero,List.length_cons,List.length_nil,Nat.zero_add,Nat.reduceAdd]at q1 q2 ⊢;go_wp2_with fail
 refine(get_any _ 2 _ ⟨#[98]⟩ _ HL.o (by decide)).mono ?_;rintro e w2 ⟨rfl,hb⟩;rw[KG.o];have HB2:=hd (bel HB.o hb);clear hb;go_wp2;go_ret;exact⟨rfl,HB2.o⟩
theorem lscanned_any (s:ByteArray)(w:World)(hs:s.size≤1125899906842624)(b:Bool)(hb:b=true↔∃T,SC.scan s=.ok T) :
  Calls prog 18 #[.string s] w fun e w'=>e=.returned (.bool b)∧Below w.heap.size w w':=by
 have CS:=hd (rlscan_any s w hs);cases hg:SC.scan s with
 |bad p er=>
  have hbf:b=false:=by
   cases b with
   |false=>rfl
   |true=>
    obtain⟨T,hT⟩:=hb.1 rfl;rw[hg]at hT;cases hT
  have her:er≠0:=by
   unfold SC.scan at hg;split at hg
   ·simp only[SC.Out.bad.injEq]at hg;omega
   ·have:=(SC.go_err s _ 0 false false p er rfl hg).1;omega
  have heN:(er==0)=false:=(by rw[bf];exact her);subst hbf;rw[hg]at CS;clear hg hb her;go_enter func18,ntmps18;go_wp2_with fail
  refine CS.o.mono ?_;rintro e1 w1 ⟨rfl,hb1⟩;go_wp2;go_ret;exact⟨rfl,hb1⟩
 |ok T=>
  have hbt:b=true:=hb.2 ⟨T,hg⟩;subst hbt;rw[hg]at CS;clear hg hb;go_enter func18,ntmps18;go_wp2_with fail
  refine CS.o.mono ?_;rintro e1 w1 ⟨v,rfl,hown,hb1⟩;obtain⟨A,c,rfl⟩:=own_shape hown;clear hown;go_wp2;go_ret;exact⟨rfl,hb1⟩
def zz:Lb:=(⟨#[122,122]⟩,⟨#[49]⟩)
theorem text_size (l:List Lb)(hl:l.length≤1048577)(h:∀x∈l,x.1.size≤1048576∧x.2.size≤1048576):(L.text l).size≤1125899906842624:=by
 have h1:=L.tw_len (L.inA (L.ahB l) l) (fun y hy=>h y (L.inA_mem hy));have h2:=L.inA_len (L.ahB l) l;have h3:=L.get_len l SC.nmB h;show (L.textL l).toArray.size≤_
 rw[List.size_toArray];unfold L.textL;split
 ·have h4:(L.hdT (L.ahB l) (L.get SC.nmB l)).length≤1048576:=by
   unfold L.hdT;split
   ·rw[←Lib.size_eq];exact h3
   ·simp
  have h5:(L.tl (L.ahB l) (L.inA (L.ahB l) l)).length≤2:=by
   unfold L.tl;split
   ·split<;>simp
   ·simp
  rw[List.length_append,List.length_append];omega
 ·simp
theorem lback_walk (A1 A2:Option Addr)(c1 c2:Nat)(l1 l2:List Lb)(w:World)(h1:IsL 2 w (.slice A1 l1.length c1) l1.length (cellsL l1))(h2:IsL 2 w (.slice A2 l2.length c2) l2.length (cellsL l2))(hs1:SmL l1)(hs2:SmL l2)(N:Nm2 w) :
  Calls prog 5 #[.slice A1 l1.length c1,.slice A2 l2.length c2] w fun e w'=>e=.returned (.bool true)∧Below w.heap.size w w':=by
 have H1:=hd h1;have H2:=hd h2;have HN:=hd N;have hn1:=hs1.1;have hn2:=hs2.1;have HZ:∀l:List Lb,SmL l→∀y∈[zz]++l,y.1.size≤1048576∧y.2.size≤1048576:=fun l hl y hy=>by
  rcases List.mem_append.1 hy with h|h
  ·rw[List.mem_singleton]at h;subst h;exact⟨by decide,by decide⟩
  ·exact hl.2 y h
 have HZ1:=hd (HZ l1 hs1);have HZ2:=hd (HZ l2 hs2);clear h1 h2 hs1 hs2 N HZ;go_enter func5,ntmps5;have HL0:Hd (LR w (w.alloc (.cells #[.string ⟨#[122,122]⟩,.string ⟨#[49]⟩] 35)) (.slice (some ⟨w.heap.size,0,none⟩) 1 1) [zz]):=hd ⟨World.ownsRow_lit (base:=w.heap.size) w #[.string ⟨#[122,122]⟩,.string ⟨#[49]⟩] 1 (Nat.le_refl _) (by decide) rfl,(Below.refl _ _).alloc (Nat.le_refl _) _⟩;go_wp2_with (at_builtin;refine wp_lr_app rfl _ _ rfl w _ _ _ [zz] l1 HL0.o (by simp) (H1.o.below HL0.o.bel) (by omega) rfl rfl ?_)
 intro v1 w1 g1 hg1;obtain⟨L1,hL1⟩:∃L1,L1=[zz]++l1:=⟨_,rfl⟩
 replace g1:LR w w1 v1 L1:=by rw[hL1];exact g1
 rw[←hL1]at HZ1;have hl1:L1.length≤1048577:=(by rw[hL1,List.length_append,List.length_singleton];omega);clear hL1;have HL1:=hd g1;obtain⟨B1,d1,rfl⟩:=own_shape g1.own;clear g1 hg1 HL0;have HM1:=hd (make_any B1 L1.length d1 L1 w1 (IsL.own HL1.o.own) (by omega) (fun y hy=>by have:=HZ1.o y hy;omega));go_wp2_with fail
 refine HM1.o.mono ?_;rintro e w2 ⟨x1,rfl,ho1,hb2⟩;obtain⟨C1,e1,rfl⟩:=own_shape ho1;have HO1:=hd ho1;have HW1:=hd HL1.o.bel.size;have HB2:=hd (bel HL1.o.bel hb2);clear ho1 hb2 HM1 HL1;have hz2:=HB2.o.size;have HL0:Hd (LR w (w2.alloc (.cells #[.string ⟨#[122,122]⟩,.string ⟨#[49]⟩] 35)) (.slice (some ⟨w2.heap.size,0,none⟩) 1 1) [zz]):=hd ⟨World.ownsRow_lit (base:=w.heap.size) w2 #[.string ⟨#[122,122]⟩,.string ⟨#[49]⟩] 1 hz2 (by decide) rfl,HB2.o.alloc hz2 _⟩;go_wp2_with (at_builtin;refine wp_lr_app rfl _ _ rfl w _ _ _ [zz] l2 HL0.o (by simp) (H2.o.below HL0.o.bel) (by omega) rfl rfl ?_)
 intro v3 w3 g3 hg3;obtain⟨L2,hL2⟩:∃L2,L2=[zz]++l2:=⟨_,rfl⟩
 replace g3:LR w w3 v3 L2:=by rw[hL2];exact g3
 rw[←hL2]at HZ2;have hl2:L2.length≤1048577:=(by rw[hL2,List.length_append,List.length_singleton];omega);clear hL2;have HL3:=hd g3;obtain⟨B3,d3,rfl⟩:=own_shape g3.own;have HO3:Hd (w3.ownsRow w.heap.size 35 2 (.slice C1 (L.made L1).length e1) (L.made L1).length (cellsL (L.made L1))):=hd (by
  have h0:=own_below HO1.o (show Below w2.heap.size w2 (w2.alloc (.cells #[.string ⟨#[122,122]⟩,.string ⟨#[49]⟩] 35)) from (Below.refl _ _).alloc (Nat.le_refl _) _);refine(own_mono h0 HW1.o).kept hg3 ?_;cases hb:(Value.slice C1 (L.made L1).length e1).ownBlock with
  |none=>exact .inl rfl
  |some g=>
   refine .inr fun e=>?_
   have h5:=(HO1.o.lt g hb).2;simp only[Value.ownBlock,Option.some.injEq]at e;omega)
 clear g3 hg3 HL0 HO1;have HM3:=hd (make_any B3 L2.length d3 L2 w3 (IsL.own HL3.o.own) (by omega) (fun y hy=>by have:=HZ2.o y hy;omega));go_wp2_with fail
 refine HM3.o.mono ?_;rintro e w4 ⟨x2,rfl,ho3,hb4⟩;obtain⟨C2,e2,rfl⟩:=own_shape ho3;have HB4:=hd (bel HL3.o.bel hb4);have HO4:=hd (own_below HO3.o hb4);have HP4:=hd ho3;clear ho3 hb4 HM3 HL3 HO3 HB2 hz2;go_wp2_with fail
 refine(awake_any _).mono ?_;rintro e w5 ⟨rfl,hb5⟩;have HB5:=hd (bel HB4.o hb5);have HO5:=hd (IsL.own (own_below HO4.o hb5));have HP5:=hd (IsL.own (own_below HP4.o hb5));clear hb5 HB4 HO4 HP4;by_cases he1:L.mkErr L1=0
 ·by_cases he2:L.mkErr L2=0
  ·have t1:(L.mkErr L1 !=0)=false:=by rw[he1];rfl
   have t2:(L.mkErr L2 !=0)=false:=(by rw[he2];rfl);have HS1:=hd (L.made_sound L1);have HS2:=hd (L.made_sound L2);have hm1:(L.made L1).length≤1048577:=(by have:=L.made_len L1;omega);have hm2:(L.made L2).length≤1048577:=(by have:=L.made_len L2;omega);have HY1:=hd (fun y (hy:y∈L.made L1)=>HZ1.o y (L.made_mem L1 y hy));have HY2:=hd (fun y (hy:y∈L.made L2)=>HZ2.o y (L.made_mem L2 y hy));clear he1 he2;generalize L.made L1=a at *;generalize L.made L2=b at *;generalize L.mkErr L1=m1 at *;generalize L.mkErr L2=m2 at *;go_wp2_with fail
   refine(ltext_any _ a.length a _ HO5.o (by omega) HY1.o).mono ?_;rintro e w6 ⟨rfl,hb6⟩;have HB6:=hd (bel HB5.o hb6);have HO6:=hd (HO5.o.below hb6);have HP6:=hd (HP5.o.below hb6);clear hb6 HB5 HO5 HP5;go_wp2_with fail
   refine(ltext_any _ b.length b _ HP6.o (by omega) HY2.o).mono ?_;rintro e w7 ⟨rfl,hb7⟩;have HB7:=hd (bel HB6.o hb7);have HO7:=hd (HO6.o.below hb7);have HP7:=hd (HP6.o.below hb7);clear hb7 HB6 HO6 HP6;have t3:((L.text a).toList==[])=false:=(by rw[bf];exact L.text_ne HS1.o);have t3':(L.text a).toList.isEmpty=false:=by
    cases h:(L.text a).toList with
    |nil=>exact absurd h (L.text_ne HS1.o)
    |cons x r=>rfl
   have HEQ:Hd (((L.text a).toList==(L.text b).toList)=decide (a=b)):=hd (by
    rw[Bool.eq_iff_iff,beq_iff_eq,decide_eq_true_eq]
    constructor
    ·intro h;exact L.text_inj HS1.o HS2.o (toList_inj.1 h)
    ·rintro rfl;rfl)
   have HTZ:=hd (text_size a hm1 HY1.o);obtain⟨sc,HSC⟩:∃sc:Bool,Hd (sc=true↔∃T,SC.scan (L.text a)=.ok T):=by
    by_cases h:∃T,SC.scan (L.text a)=.ok T
    ·exact⟨true,hd ⟨fun _=>h,fun _=>rfl⟩⟩
    ·exact⟨false,hd ⟨fun h2=>(by cases h2),fun h2=>absurd h2 h⟩⟩
   have HRB:=hd (fun h:(L.text a).size≤33554432=>L.text_back HS1.o h);have HVL:=hd HS1.o.vld;clear HS1 HS2 HZ1 HZ2;obtain⟨s,hs⟩:∃s,s=L.text a:=⟨_,rfl⟩
   obtain⟨u,hu⟩:∃u,u=L.text b:=⟨_,rfl⟩
   rw[←hs]at t3 t3' HEQ HTZ HSC HRB;rw[←hu]at HEQ;rw[←hs,←hu];clear hs hu;obtain⟨q,hq⟩:∃q,q=decide (a=b):=⟨_,rfl⟩
   have t4:(s.toList==u.toList)=q:=(by rw[HEQ.o,hq]);have t5:(q !=q)=false:=(by simp);have CSM:=hd (lsame_any _ _ a.length b.length a b w7 HO7.o HP7.o (by omega));rw[←hq]at CSM;clear hq HEQ HP7;go_wp2_with fail
   refine CSM.o.mono ?_;rintro e w8 ⟨rfl,hb8⟩;have HB8:=hd (bel HB7.o hb8);have HO8:=hd (HO7.o.below hb8);clear hb8 HB7 HO7 CSM;go_wp2_with fail
   refine(lscanned_any s _ HTZ.o sc HSC.o).mono ?_;rintro e w9 ⟨rfl,hb9⟩;have HB9:=hd (bel HB8.o hb9);have HO9:=hd (HO8.o.below hb9);clear hb9 HB8 HO8;cases sc with
   |false=>
    have hb:=HB9.o;go_wp2;go_ret;exact⟨rfl,hb⟩
   |true=>
    have HSZ:Hd (s.size≤33554432):=hd (by
     obtain⟨T,hT⟩:=HSC.o.1 rfl;unfold SC.scan at hT;by_cases h:33554432<s.size
     ·rw[if_pos h]at hT;cases hT
     ·omega)
    have CRD:=hd (lread_any s w9 (HN.o.below HB9.o) HSZ.o);rw[HRB.o HSZ.o]at CRD;clear HSC HRB;go_wp2_with fail
    refine CRD.o.mono ?_;rintro e v1 ⟨x,rfl,ho,hb⟩;simp only at ho;obtain⟨D1,f1,rfl⟩:=own_shape ho;have HD1:=hd (IsL.own ho);have HB10:=hd (bel HB9.o hb);have HO10:=hd (HO9.o.below hb);clear ho hb CRD HB9 HO9;go_wp2_with fail
    refine(lsame_any _ _ a.length a.length a a _ HD1.o HO10.o (by omega)).mono ?_;rintro e v2 ⟨rfl,hb⟩;rw[decide_eq_true rfl];have HD2:=hd (HD1.o.below hb);have HB11:=hd (bel HB10.o hb);clear hb HD1 HB10;go_wp2_with fail
    refine(vld_any _ a.length a _ HD2.o (by omega) (fun y hy=>by have:=HY1.o y hy;omega)).mono ?_;rintro e v3 ⟨rfl,hb⟩;rw[HVL.o];have HB12:=bel HB11.o hb;clear hb HB11;go_wp2;go_ret;exact⟨rfl,HB12⟩
  ·have t1:(L.mkErr L1 !=0)=false:=by rw[he1];rfl
   have t2:(L.mkErr L2 !=0)=true:=(by rw[bne_iff_ne];exact he2);have hb:=HB5.o;clear he1 he2;go_wp2;go_ret;exact⟨rfl,hb⟩
 ·have t1:(L.mkErr L1 !=0)=true:=by rw[bne_iff_ne];exact he1
  have hb:=HB5.o;clear he1;go_wp2;go_ret;exact⟨rfl,hb⟩
end Go.Proofs.YtieknenhfeejiaaGreatDoor
