/- Words for texts turned into bytes and back. No function of the program in sight. -/
import Derived.Test.YtieknenhfeejiaaGreatDoorBase3
import Derived.Test.YtieknenhfeejiaaGreatDoorUNext
import Derived.Laws.IdiomStrings
set_option linter.unusedVariables false
set_option linter.unusedSimpArgs false
namespace Go.Proofs.YtieknenhfeejiaaGreatDoor
open Go.RowKit
section
variable {P:Program} {ops:Array Oper} {rest:List Oper} {o:Oper} {a:Act} {Q:Exit→Act→World→Prop}
theorem bytesRow_cell (s:ByteArray)(cap k:Nat)(hk:k<s.size):(bytesRow s cap)[k]?=some (.int .u8 (U.at' s k:Int)):=by
 rw[bytesRow_at s cap k hk,U.at_eq s k hk];rfl
theorem wpList_bytes_of (w:World)(src dst e:TypeId)(s:ByteArray)(hs:P.underlying src=some .string)(hd:P.underlying dst=some (.slice e))(he:P.underlying e=some (.int .u8))
  (hg:Region.wanted o (yielded ops a.tmps)=true)(x:Operand)(ho:o.op=.convert src dst x)(hx:a.eval x=.string s)
  (h:∀cap w',Below w.heap.size w w'→w.heap.size<w'.heap.size→(∀k,k<s.size→w'.cell? ⟨w.heap.size,k,none⟩=some (.int .u8 (U.at' s k:Int)))→wpList P ops Q rest (a.put o.dst (.slice (some ⟨w.heap.size,0,none⟩) s.size cap)) w') :
  wpList P ops Q (o::rest) a w:=by
 refine wpList_wanted hg fun K hK=>?_
 have hr:=run_bytes_of_string (P:=P) w src dst e s hs hd he;unfold Oper.wp execOp;simp only[ho,hx,hr,Sem.run_bind,Result.andThen_ok,Sem.run_pure];refine hK _ _ (h _ _ ((Below.refl _ _).drew.alloc (Nat.le_refl _) _) (by simp) fun k hk=>?_);show ((w.drew).alloc _).cell? ⟨w.drew.heap.size,k,none⟩=_
 rw[World.cell?_alloc_mark];exact bytesRow_cell s _ k hk
theorem run_string_of (w:World)(src dst e:TypeId)(hs:P.underlying src=some (.slice e))(he:P.underlying e=some (.int .u8))(hd:P.underlying dst=some .string)
  (v:Value)(n:Nat)(l:List UInt8)(h:IsL 1 w v n (cellsB l)):(convert src dst v).run P w=.ok (.string ⟨l.toArray⟩) w:=by
 obtain⟨hl,A,c,rfl,hr⟩:=h;rw[cellsB_len,Nat.mul_one]at hl;subst hl;by_cases h0:l.length=0
 ·have:l=[]:=List.eq_nil_of_length_eq_zero h0
  subst this;rw[run_convert_bytes_string w src dst e _ _ _ hs he hd];cases A with
  |none=>simp[Conv.bytesToString];rfl
  |some ad=>
   have:=run_bytesToString (P:=P) w ad 0 c [] (by simp[loadCells,loadCellsFrom]);exact this
 ·obtain⟨b,off,rfl,_,hc⟩:=hr.head (by rw[cellsB_len];omega)
  have:=run_convert_bytes_arg (P:=P) w src e hs he b off l.length c (l.map fun x=>(x.toNat:Int)) (by simp) (fun i hi=>by
   have:=hc i (by rw[cellsB_len];exact hi);rw[this];simp[cellsB,List.getD,hi]) dst hd
  rw[this];congr 2
  unfold strOfNums;rw[List.map_map];have:(fun n:Int=>UInt8.ofNat n.toNat) ∘ (fun x:UInt8=>(x.toNat:Int))=id:=(by funext x;simp);rw[this,List.map_id]
end
theorem list_at (s:ByteArray)(k:Nat)(h:k<s.size):∃h':k<s.data.toList.length,(s.data.toList[k]'h').toNat=U.at' s k:=by
 have h':k<s.data.toList.length:=(by rw[←Lib.size_eq];exact h);refine⟨h',?_⟩;have:=U.data_get s k h;rw[List.getElem?_eq_getElem h']at this;rw[Option.some.inj this];rfl
end Go.Proofs.YtieknenhfeejiaaGreatDoor
