/- LabelsTexts: for every input of bulk at most 1048576 the law returns true and .. -/
import Derived.Test.YtieknenhfeejiaaGreatDoorLTextsW
import Derived.Test.YtieknenhfeejiaaGreatDoorTie
import Derived.Test.YtieknenhfeejiaaGreatDoorCards
import Derived.Lay
import Derived.LaidOnce
import Derived.SevenTiedAt
import Derived.Deep.DeepHandedRow
set_option maxRecDepth 100000
set_option linter.unusedVariables false
set_option linter.unusedSimpArgs false
namespace Go.Proofs.YtieknenhfeejiaaGreatDoor
open Go.RowKit Go.ChangeShapes Go.WideShapes Go.Deep
section
variable {H:Type} {enc:TypeId×Value→H} {w:World} {base:Nat}
theorem open_lbssC {v:Value}{d:DataW H}{p:List MemPlace}(hv:Value.okWide Tryz.prog w .any base 31 v)(h:DataW.Trod enc Tryz.prog w 0 (fun _=>true) true 31 v d p)
  (hw:∀n∈d.weights Tryz.prog 31,n≤reachBytes)(hb:Rows.uptoBulk d≤1048576):∃l,IsLbss w v l∧∀x∈l,SmL x:=by
 obtain⟨A,len,cap,rfl⟩:=okWide_slice Tryz.underlying31 hv;obtain⟨fuel,hf⟩:=h;rcases open_slice1 Tryz.underlying31 (by kernel_rfl) hf with ⟨hcs,hx⟩|⟨a,len',cap',m,n,V,D,Pl,hcs,_,hl,hm,hmm,hx,hi⟩
 ·simp[Value.cells]at hcs
  obtain⟨rfl,rfl,rfl⟩:=hcs;exact⟨[],⟨none,0,rfl,by simp,fun i hi=>absurd hi (by simp)⟩,fun x hx=>by cases hx⟩
 ·simp[Value.cells]at hcs
  obtain⟨rfl,rfl,rfl⟩:=hcs;simp only[if_true]at hmm;simp only[Prod.mk.injEq]at hx;obtain⟨hd,_⟩:=hx;subst hd;rw[bulk_slice]at hb;have each:∀i,i<len→∃y:List Lb,w.cell? (a.add i)=some (V i)∧IsLbs w (V i) y∧SmL y:=by
   intro i hil;obtain⟨h1,h2⟩:=hi i (by omega);have hmem:D i∈(List.range len).map D:=List.mem_map.2 ⟨i,List.mem_range.2 hil,rfl⟩;have hp:=bulk_part hmem;obtain⟨l,_,_,_,hl,hs,_⟩:=open_lbsC h2 (show Rows.uptoBulk (D i)≤1048576 by omega);exact⟨l,h1,⟨hl,by have:=hs.1;unfold reachBytes;omega⟩,hs⟩
  obtain⟨l,hlen,hR⟩:=list_of len _ each;subst hlen;refine⟨l,⟨some a,cap,rfl,by omega,fun i hil=>?_⟩,?_⟩
  ·have ha:a=⟨a.block,a.off,none⟩:=by
    have:=(hR 0 (by omega)).1;rw[show a.add 0=a from by simp[Addr.add]]at this;exact plain_of_cell this
   obtain⟨r1,r2,_⟩:=hR i hil;refine⟨a.block,a.off,V i,congrArg some ha,?_,r2⟩;rw[ha,add_plain]at r1;exact r1
  ·intro x hx
   obtain⟨k,hk,rfl⟩:=List.mem_iff_getElem.1 hx;exact(hR k hk).2.2
end
end Go.Proofs.YtieknenhfeejiaaGreatDoor
namespace Go.Proofs.YtieknenhfeejiaaGreatDoor.labelsTexts
open Go.RowKit Go.ChangeShapes Go.WideShapes Go.ChangeAt
theorem own:ownKnob Tryz.prog.godebug=none:=by kernel_rfl
theorem laidOut:laidOutB Tryz.prog=true:=by kernel_rfl
def laid:List (String×DataW Unit):=Rows.labelsTextsUptoRow.laid
section
variable {H:Type} {enc:TypeId×Value→H}
theorem witness_row_z {C:Checked}{os:Os}{f:FuncId}{fn:Func}{s:OpenSpec}{conds:List PathCond}{apart:Bool}{laid:List (String×DataW Unit)}(modest:Bool)(w0:World)(args:Array Value)(hos:w0.os=os)
  (hs:(w0.forCall (fun _ _=>0) ⟨#[],args,[]⟩).Shaped C.prog)
  (hok:Input.okWideB C.prog (w0.forCall (fun _ _=>0) ⟨#[],args,[]⟩) f ⟨#[],args,[]⟩=true)
  (hrow:s.preRow enc C.prog fn conds apart laid (w0.forCall (fun _ _=>0) ⟨#[],args,[]⟩).memory args) :
  ∃(w:World) (tape:Tape) (i:Input),w.os=os∧(w.forCall tape i).Shaped C.prog∧i.vars=[]∧Input.okWide C.prog (w.forCall tape i) .any w.heap.size f i∧
   s.preRow enc C.prog fn conds apart laid (w.forCall tape i).memory i.args∧({ modest:=modest }:Assume).holds C.prog (lone (Frame.enter C.prog f i.args .normal) [] (w.forCall tape i)):=
 ⟨w0,fun _ _=>0,⟨#[],args,[]⟩,hos,hs,(Input.okWide_of_okWideB (base:=0) hok).1,(Input.okWide_of_okWideB hok).2,hrow,by
  simp only[Assume.holds];exact⟨by simp,by simp,fun _=>Modest.zero,by simp,by simp⟩⟩
end
theorem reads (os:Os){H:Type}(enc:TypeId×Value→H):∃places,DataW.whole enc Tryz.prog ((World.laidAll Tryz.prog os laid).forCall (fun _ _=>0) ⟨#[],#[.slice none 0 0,.slice none 0 0],[]⟩).memory Tryz.f4.params.toList Rows.labelsTextsSpec.vars false #[Value.slice none 0 0,Value.slice none 0 0].toList 8=some ([.nil,.nil],[],places):=
 ⟨[],by kernel_rfl⟩
theorem lifted (os:Os)(started:os.Started)(H:Type)(enc:TypeId×Value→H)(F:Stop.Interp) :
  ReturnsInHanded {} Tryz.checked os 4 .any ((Rows.OpenSpec.upto Rows.labelsTextsSpec).preRow enc Tryz.prog Tryz.f4 Rows.labelsTextsUptoRow.domain false Rows.labelsTextsUptoRow.laid) (((Rows.OpenSpec.upto Rows.labelsTextsSpec).at F).post enc Tryz.prog Tryz.f4 false true false false):=by
 obtain⟨places,hx⟩:=reads os enc;refine returnsInHanded_of_row (C:=Tryz.checked) (s:=Rows.OpenSpec.upto Rows.labelsTextsSpec) own started (by kernel_rfl) Tryz.func4
  (witness_row_z (enc:=enc) (C:=Tryz.checked) false (World.laidAll Tryz.prog os laid) #[.slice none 0 0,.slice none 0 0] (World.laidAll_os _ _ _)
   (World.shaped_of_ZipB (by kernel_rfl) (by kernel_rfl)) (by kernel_rfl)
   (OpenSpec.preRow_of_cond 8 hx (by kernel_rfl) (fun k hk=>by cases hk;kernel_rfl) (by kernel_rfl) (by first|exact laidMet_laidAll _ (by kernel_rfl) (by kernel_rfl)|(rw[MakeChecks.laidMetH_plain _ _ _ (by kernel_rfl)];exact laidMet_laidAll _ (by kernel_rfl) (by kernel_rfl))))) ?_
 intro W base args ds gs before hval0 hW _ hcond hsz0 hL0 _ _;have hk:=hcond _ rfl;have hL:laidMet Tryz.prog laid W:=by
  have h:laidMetH Tryz.prog laid W:=hL0;rwa[MakeChecks.laidMetH_plain _ _ _ (by kernel_rfl)]at h
 have hval:∀(j:Nat) t v,Tryz.f4.params[j]?=some t→args[j]?=some v→Value.okWide Tryz.prog W .any base t v:=hval0
 have hsz:(DataW.weightsEach Tryz.prog (Tryz.f4.params.toList++Rows.labelsTextsSpec.plain.varTypes Tryz.prog) (ds++gs)).all (·≤reachBytes)=true:=hsz0;have hW':=hW;obtain⟨p,q,hA0,hV,rfl,hfz,hnd⟩:=hW;have hA:DataW.TrodAll enc Tryz.prog W 0 (fun _=>true) true Tryz.f4.params.toList args.toList ds p:=hA0;rw[Tryz.params4]at hA hval hsz;obtain⟨v0,vs0,d0,ds0,p0,q0,hargs,rfl,rfl,h0,r0⟩:=trodAll_cons hA;obtain⟨v1,vs1,d1,ds1,p1,q1,rfl,rfl,rfl,h1,r1⟩:=trodAll_cons r0;obtain⟨rfl,rfl,rfl⟩:=trodAll_nil r1;obtain rfl:args=#[v0,v1]:=by cases args;simp_all
 obtain⟨rfl,rfl⟩:=trodVars_none hV;have k0:=h0;have k1:=h1;have lt0:∀x∈p0,x.block<W.heap.size:=by obtain⟨m,hm⟩:=k0;exact DataW.trod_lt m _ _ _ hm
 have lt1:∀x∈p1,x.block<W.heap.size:=by obtain⟨m,hm⟩:=k1;exact DataW.trod_lt m _ _ _ hm
 have w0:∀n∈d0.weights Tryz.prog 31,n≤reachBytes:=fun n hn=>by simpa using List.all_eq_true.1 hsz _ (DataW.weights_mem_each (j:=0) rfl rfl n hn)
 clear hA0 hval0;have hbulk:=bulk_bound hk;simp only[List.append_nil,bulk_cons,bulk_nil]at hbulk;obtain⟨l,hl,hSm⟩:=open_lbssC (hval 0 31 v0 rfl rfl) h0 w0 (by omega);obtain⟨ts,hts⟩:=open_strs Tryz.underlying32 Tryz.underlying9 (by kernel_rfl) (hval 1 32 v1 rfl rfl) h1 (by omega);have hL13:laidMet Tryz.prog laid13 W:=hL;refine(ltexts_walk v0 v1 l ts W hl hSm hts (nm2_of13 hL13)).mono fun e W' ⟨he,bel⟩=>?_
 subst he;exact⟨_,rfl,_,_,_,[],_,[],hW',trodAll_mk1 (shut_bool Tryz.underlying4 _),(trodAll_cons_mk (Below.trod laidOut (by kernel_rfl) (of_decide_eq_true (by kernel_rfl)) k0 bel lt0) (trodAll_cons_mk (Below.trod laidOut (by kernel_rfl) (of_decide_eq_true (by kernel_rfl)) k1 bel lt1) trodAll_mk0)),rfl,bel.frame _,fun h=>by cases h⟩
theorem over:Rows.LabelsTextsUptoSaid:=
 OpenClaim.holds_of_cond 4 Tryz.f4 rfl rfl rfl rfl rfl rfl rfl ⟨rfl,rfl,rfl,rfl,rfl⟩ rfl rfl rfl rfl rfl (by kernel_rfl) Tryz.func4 (by kernel_rfl)
  (of_decide_eq_true (by kernel_rfl)) (by unfold Func.isWrapper;first|(rw[if_pos (by decide +kernel)];kernel_rfl)|(rw[if_neg (by decide +kernel)];exact⟨rfl,rfl⟩))
  (fun os started H enc _ F=>by rw[OpenClaim.pre_eq_preRow];exact lifted os started H enc F)
theorem proved:Rows.LabelsTextsUptoCardSaid:=
 Claim7.holds_tied_plain_at .later [] _ _ _ _ over (fun _ h=>by cases h) (by kernel_rfl) (fun _ h=>by cases h) labelsTextsUpto_row_tie rfl ⟨rfl,rfl⟩ (by kernel_rfl) rfl
  (fun f fn hf hfn=>by
   obtain rfl : f = 4 := Option.some.inj ((show Tryz.prog.funcNamed "weir/weirlaw16.LabelsTexts" = some 4 by kernel_rfl).symm.trans hf) |>.symm
   obtain rfl:fn=Tryz.f4:=(Option.some.inj (Tryz.func4.symm.trans hfn)).symm;exact⟨by kernel_rfl,fun j t ht=>by
    rw[Tryz.params4]at ht;have hm:t∈[31,32]:=(by simpa using Array.mem_of_getElem? ht);have hall:([31,32].all fun u=>!Tryz.prog.wantsStandIn u)=true:=(by kernel_rfl);exact(show Tryz.prog.wantsStandIn t=false by simpa using List.all_eq_true.1 hall t hm)⟩)
  (by kernel_rfl)
#print axioms proved
end Go.Proofs.YtieknenhfeejiaaGreatDoor.labelsTexts
