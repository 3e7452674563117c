/- From what a row lists to what the walks ask of the variables. The table of po .. -/
import Derived.Stop.LaidErr
import Derived.Deep.Strs
import GoSem.PinnedTables
import Derived.LaidMore
import Derived.Test.YtieknenhfeejiaaGreatDoorPVal
set_option maxRecDepth 100000
set_option linter.unusedVariables false
set_option linter.unusedSimpArgs false
namespace Go.Proofs.YtieknenhfeejiaaGreatDoor
open _root_.Go.Proofs.Tryz
open Go.RowKit Go.ChangeShapes Go.WideShapes Go.Deep
section
variable {P:Program} {W:World} {name:String} {rest:List (String×DataW Unit)} {g:Nat} {t:TypeId}
theorem laid_block {d:DataW Unit}(hg:P.globalNamed name=some g)(h:laidMet P ((name,d)::rest) W){cs:Array Value}(hv:W.var? P name=some cs)(h0:0<cs.size):∃c t,W.heap[g]?=some (.cells c t (0,0)):=by
 obtain⟨ps,⟨g',t',cs',fuel,p,q,hg',ht',hvar,hd,_,rfl⟩,_,hc⟩:=h;obtain rfl:=Option.some.inj (hg.symm.trans hg');obtain rfl:=Option.some.inj (hv.symm.trans hvar);refine(hc g 0 ?_).1;refine List.mem_append_left _ (List.mem_append_left _ ?_);unfold MemPlace.row;exact List.mem_map.2 ⟨0,List.mem_range.2 h0,rfl⟩
theorem laid_bool {b:Bool}(hg:P.globalNamed name=some g)(hty:(P.globals[g]?).map (·.type)=some t)(ht:P.underlying t=some .bool)(h:laidMet P ((name,.lit (.bool b))::rest) W):W.var? P name=some #[.bool b]:=by
 obtain⟨ps,⟨g',t',cs,fuel,p,q,hg',ht',hvar,hd,_,_⟩,_⟩:=h;obtain rfl:=Option.some.inj (hg.symm.trans hg');obtain rfl:=Option.some.inj (hty.symm.trans ht');obtain⟨b',hc,hx⟩:=DataW.trod_bool ht hd;simp only[Prod.mk.injEq,DataW.lit.injEq,Lit.bool.injEq]at hx;rw[hvar,hx.1];congr 1
 apply Array.ext';simpa using hc
theorem laid_ints3 {f0 f1 f2:Field}{k0 k1 k2:IntKind}{a0 a1 a2:Int}(hg:P.globalNamed name=some g)(hty:(P.globals[g]?).map (·.type)=some t)(ht:P.underlying t=some (.struct #[f0,f1,f2]))
  (h0:P.underlying f0.type=some (.int k0))(h1:P.underlying f1.type=some (.int k1))(h2:P.underlying f2.type=some (.int k2))(c0:P.cellsOf f0.type=1)(c1:P.cellsOf f1.type=1)(c2:P.cellsOf f2.type=1)
  (o0:f0.offset=0)(o1:f1.offset=1)(o2:f2.offset=2)(hct:P.cellsOf t=3)
  (h:laidMet P ((name,.agg [.lit (.int k0 a0),.lit (.int k1 a1),.lit (.int k2 a2)])::rest) W):W.var? P name=some #[.int k0 a0,.int k1 a1,.int k2 a2]:=by
 obtain⟨ps,⟨g',t',cs,fuel,p,q,hg',ht',hvar,hd,_,_⟩,_⟩:=h;obtain rfl:=Option.some.inj (hg.symm.trans hg');obtain rfl:=Option.some.inj (hty.symm.trans ht');obtain⟨y0,y1,y2,n,hx,hl,e0,e1,e2⟩:=trod_struct3 ht hd;rw[c0,o0]at e0;rw[c1,o1]at e1;rw[c2,o2]at e2;obtain⟨z0,hc0,rfl,_⟩:=DataW.trod_int h0 e0;obtain⟨z1,hc1,rfl,_⟩:=DataW.trod_int h1 e1;obtain⟨z2,hc2,rfl,_⟩:=DataW.trod_int h2 e2;simp at hx;obtain⟨⟨rfl,rfl,rfl⟩,_⟩:=hx;rw[hct]at hl;rw[hvar];congr 1
 apply Array.ext';generalize cs.toList=l at *
 match l,hl with
 |[u,v,x],_=>
  simp at hc0 hc1 hc2;rw[hc0,hc1,hc2]
end
end Go.Proofs.YtieknenhfeejiaaGreatDoor
namespace Go.Proofs.YtieknenhfeejiaaGreatDoor
open _root_.Go.Proofs.Tryz
open Go.RowKit Go.ChangeShapes Go.WideShapes Go.Deep
theorem flat_of:∀(rs:List (Nat×Nat)) (l:List Value),l.length=2*rs.length→(∀i (h:i<rs.length),l[2*i]?=some (.int .u64 (rs[i].1:Int))∧l[2*i+1]?=some (.int .u64 (rs[i].2:Int)))→l=rs.flatMap fun x=>[.int .u64 (x.1:Int),.int .u64 (x.2:Int)]
 |[],l,hl,_=>List.eq_nil_of_length_eq_zero (by simpa using hl)
 |r::rs,l,hl,h=>by
  match l,hl with
  |a::b::l',hl=>
   have h0:=h 0 (by simp);simp at h0;obtain⟨rfl,rfl⟩:=h0;rw[List.flatMap_cons,←flat_of rs l' (by simp at hl;omega) (fun i hi=>by
    have:=h (i+1) (by simpa using hi);simpa[Nat.mul_add] using this)]
   rfl
  |[a],hl=>simp at hl;omega
  |[],hl=>simp at hl
section
variable {H:Type} {enc:TypeId×Value→H} {P:Program} {w:World} {base:Nat} {sp:Nat→Bool} {held:Bool}
theorem cells_of_pairs {fuel:Nat}{t e:TypeId}{n:Nat}{f0 f1:Field}{cs:List Value}{rs:List (Nat×Nat)}{p:List MemPlace}
  (ht:P.underlying t=some (.array n e))(he:P.underlying e=some (.struct #[f0,f1]))(h0:P.underlying f0.type=some (.int .u64))(h1:P.underlying f1.type=some (.int .u64))(c0:P.cellsOf f0.type=1)(c1:P.cellsOf f1.type=1)
  (o0:f0.offset=0)(o1:f1.offset=1)(hce:P.cellsOf e=2)(hct:P.cellsOf t=n*2)
  (h:DataW.trod enc P w base sp held fuel t cs=some (.agg (rs.map fun x=>.agg [.lit (.int .u64 (x.1:Int)),.lit (.int .u64 (x.2:Int))]),p)):cs=rs.flatMap fun x=>[.int .u64 (x.1:Int),.int .u64 (x.2:Int)]:=by
 cases fuel with
 |zero=>simp[DataW.trod]at h
 |succ fuel=>
  simp only[DataW.trod,ht,hce,hct]at h;split at h
  ·rename_i hl
   obtain⟨xs,hm,hx⟩:=Option.map_eq_some_iff.1 h;have hxs:xs.map (·.1)=rs.map fun x=>(DataW.agg [.lit (.int .u64 (x.1:Int)),.lit (.int .u64 (x.2:Int))]:DataW H):=by
    have:=congrArg Prod.fst hx;simpa using this
   have hxl:xs.length=n:=(Lib.mapM_length hm).trans List.length_range;have hrl:rs.length=n:=by
    have:=congrArg List.length hxs;simp at this;omega
   have hcl:cs.length=n*2:=(by first|exact hl|simpa using hl);refine flat_of rs cs (by omega) fun i hi=>?_
   obtain⟨b,hb,hf⟩:=Lib.mapM_at hm i i (by rw[List.getElem?_range (by omega)]);obtain⟨y0,y1,m,hx',_,e0,e1⟩:=trod_struct2 he hf;rw[c0,o0]at e0;rw[c1,o1]at e1;obtain⟨z0,hc0,rfl,_⟩:=DataW.trod_int h0 e0;obtain⟨z1,hc1,rfl,_⟩:=DataW.trod_int h1 e1;have h2:(xs.map (·.1))[i]?=some (DataW.agg [.lit (.int .u64 z0),.lit (.int .u64 z1)]:DataW H):=(by rw[List.getElem?_map,hb,hx'];rfl);rw[hxs,List.getElem?_map,List.getElem?_eq_getElem hi]at h2;simp at h2;obtain⟨rfl,rfl⟩:=h2;have g0:=congrArg (·[0]?) hc0;have g1:=congrArg (·[0]?) hc1;simp[List.getElem?_drop]at g0 g1;rw[show 2*i=i*2 by omega];exact⟨g0,g1⟩
  ·cases h
end
theorem rows_eq:Pinned.pow10Rows=(List.range 696).map fun i:Nat=>(FS.hiOf ((i:Int)-348),FS.loOf ((i:Int)-348)):=by decide +kernel
theorem pairs_gen (f g:Nat→Nat):∀n:Nat,(((List.range n).map fun i:Nat=>(f i,g i)).flatMap fun x=>[Value.int .u64 (x.1:Int),Value.int .u64 (x.2:Int)])=((List.range n).flatMap fun i=>[(f i:Int),(g i:Int)]).map fun z=>Value.int .u64 z
 |0=>rfl
 |n+1=>by
  rw[List.range_succ,List.map_append,List.flatMap_append,List.flatMap_append,List.map_append,pairs_gen f g n];rfl
theorem pairs_powZ:(Pinned.pow10Rows.flatMap fun x=>[Value.int .u64 (x.1:Int),Value.int .u64 (x.2:Int)])=powZ.map fun z=>Value.int .u64 z:=by
 rw[rows_eq];exact pairs_gen (fun i=>FS.hiOf ((i:Int)-348)) (fun i=>FS.loOf ((i:Int)-348)) 696
theorem tabIs_pow {W : World}{rest : List (String × DataW Unit)}(h : laidMet prog (("internal/strconv.pow10Tab", Pinned.pow10Tab) :: rest) W) : Lib.TabIs prog W "internal/strconv.pow10Tab" .u64 powZ := by
 obtain⟨ps,⟨g',t',cs,fuel,p,q,hg',ht',hvar,hd,_,_⟩,_⟩:=h;obtain rfl:g'=10:=(Option.some.inj (g10_named.symm.trans hg')).symm;obtain rfl:t'=258:=(Option.some.inj ((show (prog.globals[10]?).map (·.type)=some 258 by kernel_rfl).symm.trans ht')).symm;have hc:=cells_of_pairs (n:=696) (e:=257) underlying258 underlying257 (by kernel_rfl) (by kernel_rfl) (by kernel_rfl) (by kernel_rfl) rfl rfl (by kernel_rfl) (by kernel_rfl) hd;have e:cs=(powZ.map fun z=>Value.int .u64 z).toArray:=Array.ext' (by rw[hc,pairs_powZ]);unfold Lib.TabIs;rw[←e];exact hvar
end Go.Proofs.YtieknenhfeejiaaGreatDoor
namespace Go.Proofs.YtieknenhfeejiaaGreatDoor
open _root_.Go.Proofs.Tryz
open Go.RowKit Go.ChangeShapes Go.WideShapes Go.ChangeAt Go.Deep
theorem trod_float {H:Type}{enc:TypeId×Value→H}{P:Program}{w:World}{base:Nat}{spare:Nat→Bool}{held:Bool}{fuel:Nat}{t:TypeId}{cs:List Value}{x:DataW H×List MemPlace}{k:FloatKind}(ht:P.underlying t=some (.float k))(h:DataW.trod enc P w base spare held fuel t cs=some x):∃b,cs=[.float k b]∧x=(.lit (.float k b),[])∧(Lit.float k b).wf=true:=by
 cases fuel with
 |zero=>simp[DataW.trod]at h
 |succ n=>
  unfold DataW.trod at h;rw[ht]at h;split at h<;>simp_all
def laid13 : List (String × DataW Unit) := [("math/bits.deBruijn32tab", Rows.laid_math_bits_deBruijn32tab), ("math/bits.deBruijn64tab", Rows.laid_math_bits_deBruijn64tab), ("internal/strconv.float32info", Rows.laid_internal_strconv_float32info), ("internal/strconv.float64info", Rows.laid_internal_strconv_float64info), ("internal/strconv.optimize", Rows.laid_internal_strconv_optimize), ("internal/strconv.powtab", Rows.laid_internal_strconv_powtab), ("internal/strconv.float64pow10", Rows.laid_internal_strconv_float64pow10), ("internal/strconv.float32pow10", Rows.laid_internal_strconv_float32pow10), ("internal/strconv.uint64pow10", Rows.laid_internal_strconv_uint64pow10), ("strconv.ErrRange", Rows.laid_strconv_ErrRange), ("strconv.ErrSyntax", Rows.laid_strconv_ErrSyntax), ("internal/strconv.leftcheats", Rows.laid_internal_strconv_leftcheats), ("internal/strconv.pow10Tab", Rows.laid_internal_strconv_pow10Tab)]
theorem tab_eq13:Rows.laid_internal_strconv_uint64pow10 (H:=Unit)=Lib.tabData .u64 Lib.pow10Tab:=by kernel_rfl
theorem tbl_of13 {W:World}(hL:laidMet prog laid13 W):Tbl W:=by
 have h8:=hL.tail.tail.tail.tail.tail.tail.tail.tail;have h12:=h8.tail.tail.tail.tail;refine⟨tabIs_pow h12,?_⟩;rw[tab_eq13]at h8;exact Lib.tabIs_of_head (g:=12) (t:=272) (e:=144) (n:=20) (by kernel_rfl) (by kernel_rfl) (by kernel_rfl) (by kernel_rfl) (by kernel_rfl) (by kernel_rfl) h8
theorem glb_of13 {W:World}(hL:laidMet prog laid13 W):Glb W:=by
 have h2:=hL.tail.tail;have h3:=h2.tail;have h4:=h3.tail;have g2 : prog.globalNamed "internal/strconv.float32info" = some 4 := by kernel_rfl
 have g3 : prog.globalNamed "internal/strconv.float64info" = some 6 := by kernel_rfl
 have g4 : prog.globalNamed "internal/strconv.optimize" = some 5 := by kernel_rfl
 have v2:=laid_ints3 g2 (t:=222) (by kernel_rfl) underlying222 (by kernel_rfl) (by kernel_rfl) (by kernel_rfl) (by kernel_rfl) (by kernel_rfl) (by kernel_rfl) rfl rfl rfl (by kernel_rfl) h2;have v3:=laid_ints3 g3 (t:=222) (by kernel_rfl) underlying222 (by kernel_rfl) (by kernel_rfl) (by kernel_rfl) (by kernel_rfl) (by kernel_rfl) (by kernel_rfl) rfl rfl rfl (by kernel_rfl) h3;have v4:=laid_bool g4 (t:=4) (by kernel_rfl) underlying4 h4
 exact⟨World.var?_cell g4 v4 0,World.var?_cell g3 v3 0,World.var?_cell g3 v3 1,World.var?_cell g3 v3 2,laid_block g3 h3 v3 (by decide),laid_block g2 h2 v2 (by decide)⟩
theorem pw10_eq:Rows.laid_internal_strconv_float64pow10 (H:=Unit)=.slice (FS.tens.map fun z=>.lit (.float .f64 z)) []:=by kernel_rfl
theorem pw10_of13 {W:World}(hL:laidMet prog laid13 W):Pw10 W:=by
 have h6:=hL.tail.tail.tail.tail.tail.tail;have g6 : prog.globalNamed "internal/strconv.float64pow10" = some 9 := by kernel_rfl
 rw[pw10_eq]at h6;obtain⟨ps,⟨g',t',cs,fuel,p,q,hg',ht',hvar,hd,_,_⟩,_⟩:=h6;obtain rfl:=Option.some.inj (g6.symm.trans hg');obtain rfl:t'=253:=(Option.some.inj ((show (prog.globals[9]?).map (·.type)=some 253 by kernel_rfl).symm.trans ht')).symm;obtain⟨a,cap,hcs,hle,hel⟩:=open_row underlying253 (by kernel_rfl) hd;have hv:=World.var?_cell g6 hvar 0;have h23:(FS.tens.map fun z=>(DataW.lit (.float .f64 z):DataW Unit)).length=23:=(by rw[List.length_map];rfl);rw[h23]at hcs;have hc0:cs[0]?=some (.slice (some a) 23 cap):=by
  rw[←Array.getElem?_toList,hcs];rfl
 rw[hc0]at hv;have el:∀j,j<23→W.cell? (a.add j)=some (.float .f64 (FS.ten j)):=fun j hj=>by
  have hj2:j<FS.tens.length:=hj;obtain⟨v,n,q',hc,ht⟩:=hel j (.lit (.float .f64 (FS.ten j))) (by
   rw[List.getElem?_map,List.getElem?_eq_getElem hj2];unfold FS.ten;rw[List.getD_eq_getElem?_getD,List.getElem?_eq_getElem hj2];rfl)
  obtain⟨b,e1,e2,_⟩:=trod_float underlying121 ht;simp only[Prod.mk.injEq,DataW.lit.injEq,Lit.float.injEq,true_and]at e2;simp only[List.cons.injEq,and_true]at e1;rw[hc,e1,e2.1]
 have ha:a=⟨a.block,a.off,none⟩:=by
  have h0:=el 0 (by decide);rw[show a.add 0=a from by simp[Addr.add]]at h0;exact plain_of_cell h0
 refine⟨a.block,a.off,cap,by rw[←ha];exact hv,fun j hj=>?_⟩;have h:=el j hj;rw[ha,add_plain]at h;exact h
theorem iface_cell {H:Type}{enc:TypeId×Value→H}{P:Program}{w:World}{base:Nat}{spare:Nat→Bool}{held:Bool}{fuel:Nat}{t:TypeId}{cs:List Value}{ms:Array (String×TypeId)}{nm:String}{d:DataW H}{p:List MemPlace}(ht:P.underlying t=some (.interface ms))(h:DataW.trod enc P w base spare held fuel t cs=some (.iface nm d,p)):∃u v,cs=[.iface u v]:=by
 cases fuel with
 |zero=>simp[DataW.trod]at h
 |succ n=>
  unfold DataW.trod at h;rw[ht]at h;split at h<;>simp_all
theorem erg_of13 {W:World}(hL:laidMet prog laid13 W):∃te pe,W.cell? ⟨3,0,none⟩=some (.iface te pe):=by
 have h9:=hL.tail.tail.tail.tail.tail.tail.tail.tail.tail;have g9 : prog.globalNamed "strconv.ErrRange" = some 3 := by kernel_rfl
 obtain⟨ps,⟨g',t',cs,fuel,p,q,hg',ht',hvar,hd,_,_⟩,_⟩:=h9;obtain rfl:=Option.some.inj (g9.symm.trans hg');obtain rfl:t'=68:=(Option.some.inj ((show (prog.globals[3]?).map (·.type)=some 68 by kernel_rfl).symm.trans ht')).symm;have hv:=World.var?_cell g9 hvar 0;obtain⟨u,v,hc⟩:=iface_cell underlying68 hd;refine⟨u,v,?_⟩;rw[hv,←Array.getElem?_toList,hc];rfl
theorem nms_of13 {W:World}(hL:laidMet prog laid13 W):Nms W:=⟨glb_of13 hL,tbl_of13 hL,pw10_of13 hL,erg_of13 hL⟩
end Go.Proofs.YtieknenhfeejiaaGreatDoor
