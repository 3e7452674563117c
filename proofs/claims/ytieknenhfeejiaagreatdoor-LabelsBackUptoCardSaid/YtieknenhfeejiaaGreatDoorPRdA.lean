/- num.Read over every decimal lexeme of at most 512 bytes. The table of shifts .. -/
import Derived.Test.YtieknenhfeejiaaGreatDoorDAtof
import Derived.Test.YtieknenhfeejiaaGreatDoorPShortW
import Derived.Test.YtieknenhfeejiaaGreatDoorPLay
set_option linter.unusedVariables false
set_option linter.unusedSimpArgs false
namespace Go.Proofs.YtieknenhfeejiaaGreatDoor
open _root_.Go.Proofs.Tryz
open Go.RowKit
theorem read_all (s:ByteArray)(w:World)(N:Nm2 w)(hs:s.size≤512)(h0:0<s.size)(hp:PN.pfx s.data.toList=s.size)(hh:PN.hexHead s.data.toList=false)
  (a r:List UInt8)(e:s.data.toList=a++r)(ha:DD a)(hr:∀c t,r=c::t→c.toNat=101∨c.toNat=69) :
  Calls prog 120 #[.string s] w fun e w'=>Below w.heap.size w w'∧∃b,PVal (PF.mf a PF.ls0).D (PF.expOf r-(PF.mf a PF.ls0).b) b∧e=.returned (RdAns b):=by
 obtain⟨st,r',Dc,chars,first⟩:=dec_of s (by omega) hp h0 hh;obtain⟨a',e2,ha',I⟩:=PF.loop_val _ _ _ _ _ Dc.lp PF.Inv.start;have hr':∀c t,r'=c::t→c.toNat=101∨c.toNat=69:=fun c t h=>by
  have:=Dc.ex;rw[h]at this;exact this.1
 obtain⟨rfl,rfl⟩:=split_unique a a' r r' (e.symm.trans e2) ha ha' hr hr';have hf:PF.low (s[0]'h0).toNat≠105∧PF.low (s[0]'h0).toNat≠110:=by
  have h:=List.all_eq_true.1 low_first (s[0]'h0).toNat (List.mem_range.2 (by omega));rw[if_pos (by omega),Bool.and_eq_true,bne_iff_ne,bne_iff_ne]at h;exact h
 refine readE s w N.n hs h0 hp (fun h=>low_ok (chars _ (mem_data h))) hf.1 hf.2 _ _ (fun hDD=>?_) (fun W hb=>hd (atof_dec s st r a W Dc e I (N.below hb)));have hrn:r=[]:=by
  cases r with
  |nil=>rfl
  |cons c t=>
   exfalso;have h1:=hr c t rfl;have h2:=hDD c (by rw[e];simp);omega
 subst hrn;rw[List.append_nil]at e;rw[e];exact⟨rfl,by show -_=(0:Int)-_;omega⟩
theorem PVal.le {D:Nat}{q:Int}{b:Nat}(h:PVal D q b):b≤FS.INF:=by
 rcases h with ⟨_,h⟩|⟨_,h⟩
 ·rw[h];exact Nat.zero_le _
 ·exact h.le
end Go.Proofs.YtieknenhfeejiaaGreatDoor
namespace Go.Proofs.YtieknenhfeejiaaGreatDoor
open _root_.Go.Proofs.Tryz
open Go.RowKit Go.ChangeShapes Go.WideShapes Go.ChangeAt Go.Deep
theorem powtab_eq:Rows.laid_internal_strconv_powtab (H:=Unit)=.slice ((List.range 9).map fun j=>.lit (.int .i64 (pwt j:Int))) []:=by kernel_rfl
theorem pt_of13 {W:World}(hL:laidMet prog laid13 W):Pt W W.heap.size:=by
 have h5:=hL.tail.tail.tail.tail.tail;have g5 : prog.globalNamed "internal/strconv.powtab" = some 8 := by kernel_rfl
 rw[powtab_eq]at h5;obtain⟨ps,⟨g',t',cs,fuel,p,q,hg',ht',hvar,hd,_,_⟩,_⟩:=h5;obtain rfl:=Option.some.inj (g5.symm.trans hg');obtain rfl:t'=251:=(Option.some.inj ((show (prog.globals[8]?).map (·.type)=some 251 by kernel_rfl).symm.trans ht')).symm;obtain⟨a,cap,hcs,hle,hel⟩:=open_row underlying251 (by kernel_rfl) hd;have hv:=World.var?_cell g5 hvar 0;have h9:((List.range 9).map fun j=>(DataW.lit (.int .i64 (pwt j:Int)):DataW Unit)).length=9:=(by simp);rw[h9]at hcs;have hc0:cs[0]?=some (.slice (some a) 9 cap):=by
  rw[←Array.getElem?_toList,hcs];rfl
 rw[hc0]at hv;have el:∀j,j<9→W.cell? (a.add j)=some (.int .i64 (pwt j:Int)):=fun j hj=>by
  obtain⟨v,n,q',hc,ht⟩:=hel j (.lit (.int .i64 (pwt j:Int))) (by
   rw[List.getElem?_map,List.getElem?_range hj];rfl)
  obtain⟨z,e1,e2,_⟩:=DataW.trod_int underlying3 ht;simp only[Prod.mk.injEq,DataW.lit.injEq,Lit.int.injEq,true_and]at e2;simp only[List.cons.injEq,and_true]at e1;rw[hc,e1,e2.1]
 have ha:a=⟨a.block,a.off,none⟩:=by
  have h0:=el 0 (by decide);rw[show a.add 0=a from by simp[Addr.add]]at h0;exact plain_of_cell h0
 have hB:=World.block_lt_of_cell? W _ (by have h0:=el 0 (by decide);rw[show a.add 0=a from by simp[Addr.add]]at h0;exact h0);refine⟨a.block,a.off,cap,hB,World.block_lt_of_cell? W _ hv,by rw[←ha];exact hv,fun j hj=>?_⟩;have h:=el j hj;rw[ha,add_plain]at h;exact h
theorem lc_of13 {W:World}(hL:laidMet prog laid13 W):Lc W W.heap.size:=by
 have h11:=hL.tail.tail.tail.tail.tail.tail.tail.tail.tail.tail.tail;have g11 : prog.globalNamed "internal/strconv.leftcheats" = some 11 := by kernel_rfl
 obtain⟨ps,⟨g',t',cs,fuel,p,q,hg',ht',hvar,hd,_,_⟩,_⟩:=h11;obtain rfl:=Option.some.inj (g11.symm.trans hg');obtain rfl:t'=269:=(Option.some.inj ((show (prog.globals[11]?).map (·.type)=some 269 by kernel_rfl).symm.trans ht')).symm;have hv:=World.var?_cell g11 hvar 0;have hd':DataW.trod _ _ _ _ _ _ _ _ _=some (Pinned.leftcheats,_):=hd;rcases open_slice_fields underlying269 underlying268 (by kernel_rfl) (by kernel_rfl) hd' with ⟨hcs,hx⟩|⟨a,len,cap,m,D,Pl,hcs,_,hl,hm,hmm,hx,hi⟩
 ·exfalso
  have:=congrArg Prod.fst hx;unfold Pinned.leftcheats at this;cases this
 ·have h1:=congrArg Prod.fst hx
  have h2:(DataW.slice (Pinned.cheatRows.map fun x=>.agg [.lit (.int .i64 (x.1:Int)),.lit (.string x.2)]) []:DataW Unit)=.slice ((List.range len).map D) ((List.range (m-len)).map fun j=>D (len+j)):=h1;simp only[DataW.slice.injEq]at h2;obtain⟨h2,h3⟩:=h2;have hlen:len=61:=by
   have:=congrArg List.length h2;rw[List.length_map,List.length_map,List.length_range]at this;rw[←this];decide
  subst hlen;have hc0:cs[0]?=some (.slice (some a) 61 cap):=by
   rw[←Array.getElem?_toList,hcs];rfl
  rw[hc0]at hv;have el:∀k,k≤60→W.cell? (a.add (k*2))=some (.int .i64 (DN.chD k:Int))∧W.cell? (a.add (k*2+1))=some (.string ⟨(DN.chS k).toArray⟩):=fun k hk=>by
   obtain⟨ys,n,hD,_,hyl,hfs⟩:=hi k (by split at hmm<;>omega);have hDk:D k=.agg [.lit (.int .i64 (DN.chD k:Int)),.lit (.string (DN.chS k))]:=by
    have h4:=congrArg (·[k]?) h2;simp only[List.getElem?_map,List.getElem?_range (show k<61 by omega),Option.map_some]at h4;have h61:Pinned.cheatRows.length=61:=(by decide);have hkl:k<Pinned.cheatRows.length:=(by omega);rw[List.getElem?_eq_getElem hkl]at h4;simp only[Option.map_some,Option.some.injEq]at h4;rw[←h4];unfold DN.chD DN.chS;rw[List.getD_eq_getElem?_getD,List.getElem?_eq_getElem hkl];rfl
   rw[hD]at hDk;simp only[DataW.agg.injEq]at hDk;obtain⟨v0,y0,c0,k0,t0⟩:=hfs 0 _ rfl;obtain⟨v1,y1,c1,k1,t1⟩:=hfs 1 _ rfl;obtain⟨z,hz,hz2,_⟩:=DataW.trod_int underlying3 t0;obtain⟨s,hs,hs2,_⟩:=DataW.trod_string underlying9 t1;have q0:=congrArg (·[0]?) hDk;have q1:=congrArg (·[1]?) hDk;simp only[List.getElem?_map,k0,k1,Option.map_some,hz2,hs2]at q0 q1;simp at q0 q1 hz hs;subst hz hs;refine⟨by rw[←q0];exact c0,?_⟩;rw[←q1];exact c1
  have ha:a=⟨a.block,a.off,none⟩:=by
   have h0:=(el 0 (by decide)).1;rw[show a.add (0*2)=a from by simp[Addr.add]]at h0;exact plain_of_cell h0
  have hB:=World.block_lt_of_cell? W _ (by have h0:=(el 0 (by decide)).1;rw[show a.add (0*2)=a from by simp[Addr.add]]at h0;exact h0);refine⟨a.block,a.off,cap,hB,World.block_lt_of_cell? W _ hv,by rw[←ha];exact hv,fun k hk=>?_⟩;obtain⟨e1,e2⟩:=el k hk;rw[ha,add_plain]at e1 e2;exact⟨e1,e2⟩
theorem nm2_of13 {W:World}(hL:laidMet prog laid13 W):Nm2 W:=⟨nms_of13 hL,lc_of13 hL,pt_of13 hL⟩
section
variable {H:Type} {enc:TypeId×Value→H} {w:World} {base:Nat}
end
end Go.Proofs.YtieknenhfeejiaaGreatDoor
