/- The scanner in memory; (*lex.scanner).put. (*lex.scanner).name. (*lex.scanner .. -/
import Derived.Test.YtieknenhfeejiaaGreatDoorRTrk
import Derived.BigRegion
import Derived.Shelf.Strings.Search3
import Derived.Shelf.Small.Strs
import Derived.Test.YtieknenhfeejiaaGreatDoorSpD
import Derived.Test.YtieknenhfeejiaaGreatDoorNRead
import Derived.ScopeJumps
import Derived.WalkMore
set_option maxHeartbeats 8000000
set_option linter.unusedVariables false
set_option linter.unusedSimpArgs false
namespace Go.Proofs.YtieknenhfeejiaaGreatDoor
open _root_.Go.Proofs.Tryz
open Go.RowKit
namespace SC
def cellsT (T:List Tk):List Value:=T.flatMap fun t=>[.int .i64 (t.kind:Int),.string t.text,.int .i64 (t.pos:Int)]
theorem cellsT_app (a b:List Tk):cellsT (a++b)=cellsT a++cellsT b:=List.flatMap_append
theorem cellsT_len (T:List Tk):(cellsT T).length=T.length*3:=by
 induction T with
 |nil=>rfl
 |cons t T ih=>show (_::_::_::cellsT T).length=_;simp only[List.length_cons,ih];omega
end SC
theorem info_token:(prog.info? 53).map (fun i=>(i.zero,i.size,i.bytes))=some (some (.agg #[.int .i64 0,.string ⟨#[]⟩,.int .i64 0]),3,32):=by kernel_rfl
structure SC.Zs (z:Nat)(w0 w:World)(s:ByteArray)(p:Nat)(br sq:Bool)(T:List SC.Tk):Prop where
 ex:∃A n c,Bk w z 85 [.string s,.int .i64 (p:Int),.bool br,.bool sq,.slice A n c]∧w.ownsRow (z+1) 53 3 (.slice A n c) T.length (SC.cellsT T)∧n=T.length
 bel:Below z w0 w
 le:T.length≤p
 ps:p≤s.size
section
variable {z:Nat} {w0 w w':World} {s:ByteArray} {p:Nat} {br sq:Bool} {T:List SC.Tk}
theorem SC.Zs.lt (h:SC.Zs z w0 w s p br sq T):z<w.heap.size:=by
 obtain⟨A,n,c,h1,_⟩:=h.ex;exact h1.lt
theorem SC.Zs.below (h:SC.Zs z w0 w s p br sq T)(hb:Below w.heap.size w w'):SC.Zs z w0 w' s p br sq T:=by
 obtain⟨A,n,c,h1,h2,h3⟩:=h.ex;exact⟨⟨A,n,c,h1.below hb,own_below h2 hb,h3⟩,h.bel.trans (hb.mono (Nat.le_of_lt h1.lt)),h.le,h.ps⟩
end
theorem scput_any (z:Nat)(w0 w:World)(s:ByteArray)(p n k:Nat)(br sq:Bool)(T:List SC.Tk)(Z:SC.Zs z w0 w s p br sq T)(hn:0<n)(hpn:p+n≤s.size)(hs:s.size≤33554432) :
  Calls prog 83 #[.pointer (some ⟨z,0,none⟩),.int .i64 k,.int .i64 n] w fun e w'=>e=.returned (.int .i64 0)∧SC.Zs z w0 w' s (p+n) br sq (T++[⟨k,s.extract p (p+n),p⟩]):=by
 have hlt:=Z.lt;obtain⟨A,n',c,h1,h2,rfl⟩:=Z.ex;have HB:=hd Z.bel;have hle:=Z.le;have c0:=h1.cell 0 (by simp);have c1:=h1.cell 1 (by simp);have c4:=h1.cell 4 (by simp);have f1:=h1.frozen 1;have f4:=h1.frozen 4;simp only[List.getElem_cons_zero,List.getElem_cons_succ]at c0 c1 c4;have H1:=hd h1;have H2:=hd h2;clear h1 h2 Z;obtain⟨q,hq⟩:∃q,q=p+n:=⟨_,rfl⟩
 have hwp:IntKind.i64.wrap ((p:Int)+(n:Int))=(q:Int):=(by rw[IntKind.wrap_i64];omega);have hpq:(p:Int)≤(q:Int):=(by omega);have hqs:(q:Int)≤(s.size:Int):=(by omega);have HPN:=hd (show T.length≤p∧0<n∧q=p+n∧q≤s.size by omega);rw[←hq];clear hq hle hn hpn;go_enter func83,ntmps83;go_wp2_with fail
 refine region_base fun base hbase=>?_
 have y0:base.eval (.tmp 0)=.pointer (some ⟨z,0,none⟩):=(by rw[hbase];rfl);have y1:base.eval (.tmp 1)=.int .i64 (k:Int):=(by rw[hbase];rfl);have y2:base.eval (.tmp 2)=.int .i64 (n:Int):=(by rw[hbase];rfl);have hsz:45≤base.tmps.size:=by rw[hbase];exact Nat.le_of_ble_eq_true rfl
 refine wp_region_app (by kernel_rfl) 26 27 30 [some 7,some 8,some 9,some 10,some 11,some 12,some 13,some 14,some 15,some 16,some 17,some 18,some 19,some 20,some 21,some 22,some 23,some 24,some 25,some 26,some 27,some 28,some 29,some 30,some 31,some 32,some 33,some 34,some 35,some 36,none] (by kernel_rfl) (by kernel_rfl) (by kernel_rfl) (by kernel_rfl) (by kernel_rfl) (by decide) (by decide) (by decide) (by exact Nat.le_of_ble_eq_true rfl) (by exact Nat.le_of_ble_eq_true rfl) [.pointer (some ⟨z,0,none⟩),.pointer (some ⟨z,0,none⟩),.pointer (some ⟨z,0,none⟩),.pointer (some ⟨z,4,none⟩),.slice A T.length c,.int .i64 (k:Int),.pointer (some ⟨z,0,none⟩),.pointer (some ⟨z,0,none⟩),.pointer (some ⟨z,0,none⟩),.string s,.pointer (some ⟨z,0,none⟩),.pointer (some ⟨z,0,none⟩),.pointer (some ⟨z,1,none⟩),.int .i64 (p:Int),.pointer (some ⟨z,0,none⟩),.pointer (some ⟨z,0,none⟩),.pointer (some ⟨z,1,none⟩),.int .i64 (p:Int),.int .i64 (n:Int),.int .i64 (q:Int),.string (s.extract p q),.pointer (some ⟨z,0,none⟩),.pointer (some ⟨z,0,none⟩),.pointer (some ⟨z,1,none⟩),.int .i64 (p:Int),.agg #[.int .i64 (k:Int),.string (s.extract p q),.int .i64 (p:Int)],.slice (some ⟨w.heap.size,0,none⟩) 1 1,undef,.pointer (some ⟨z,0,none⟩),.pointer (some ⟨z,4,none⟩),undef] (fun w'=>Bk w' z 85 [.string s,.int .i64 (p:Int),.bool br,.bool sq,.slice A T.length c]∧w'.ownsRow (z+1) 53 3 (.slice A T.length c) T.length (SC.cellsT T)∧Below z w0 w'∧w'.heap.size=w.heap.size) (fun w'=>Bk w' z 85 [.string s,.int .i64 (p:Int),.bool br,.bool sq,.slice A T.length c]∧w'.ownsRow (z+1) 53 3 (.slice A T.length c) T.length (SC.cellsT T)∧Below z w0 w'∧Bk w' w.heap.size 53 [.int .i64 (k:Int),.string (s.extract p q),.int .i64 (p:Int)]) (fun w'=>w'.cell? ⟨z,0,none⟩=some (.string s)∧w'.cell? ⟨z,1,none⟩=some (.int .i64 (p:Int))∧w'.cell? ⟨z,4,none⟩=some (.slice A T.length c)) (fun v w'=>Bk w' z 85 [.string s,.int .i64 (p:Int),.bool br,.bool sq,.slice A T.length c]∧Below z w0 w'∧∃A' c',v=.slice A' (T.length+1) c'∧w'.ownsRow (z+1) 53 3 v (T.length+1) (SC.cellsT T++[.int .i64 (k:Int),.string (s.extract p q),.int .i64 (p:Int)])) (fun w' h=>⟨h.1.cell 0 (by simp),h.1.cell 1 (by simp),h.1.cell 4 (by simp)⟩) (fun w' h=>⟨h.1.cell 0 (by simp),h.1.cell 1 (by simp),h.1.cell 4 (by simp)⟩) (fun _ w' h=>⟨h.1.cell 0 (by simp),h.1.cell 1 (by simp),h.1.cell 4 (by simp)⟩) ⟨H1.o.below (bel (Below.refl _ _) (Below.refl _ _).drew),own_below H2.o (Below.refl _ _).drew,HB.o.drew,rfl⟩ ?_ ?_ ?_ ?_
 ·clear hbase
  intro i o ho hia hib hiL xs w' hK hV;have hi:i<31:=(Array.getElem?_eq_some_iff.1 ho).1;rcases (show i=0∨i=1∨i=2∨i=3∨i=4∨i=5∨i=6∨i=7∨i=8∨i=9∨i=10∨i=11∨i=12∨i=13∨i=14∨i=15∨i=16∨i=17∨i=18∨i=19∨i=20∨i=21∨i=22∨i=23∨i=24∨i=25∨i=26∨i=27∨i=28∨i=29∨i=30 by omega) with rfl|rfl|rfl|rfl|rfl|rfl|rfl|rfl|rfl|rfl|rfl|rfl|rfl|rfl|rfl|rfl|rfl|rfl|rfl|rfl|rfl|rfl|rfl|rfl|rfl|rfl|rfl|rfl|rfl|rfl|rfl
  ·obtain rfl:=Option.some.inj ho
   have z0:=(putL_miss [some 7,some 8,some 9,some 10,some 11,some 12,some 13,some 14,some 15,some 16,some 17,some 18,some 19,some 20,some 21,some 22,some 23,some 24,some 25,some 26,some 27,some 28,some 29,some 30,some 31,some 32,some 33,some 34,some 35,some 36,none] base xs 0 0 (by kernel_rfl)).trans y0;refine⟨by rfl,?_⟩;show _=Result.ok (Next.value (.pointer (some ⟨z,0,none⟩))) w'
   generalize (putL base [some 7,some 8,some 9,some 10,some 11,some 12,some 13,some 14,some 15,some 16,some 17,some 18,some 19,some 20,some 21,some 22,some 23,some 24,some 25,some 26,some 27,some 28,some 29,some 30,some 31,some 32,some 33,some 34,some 35,some 36,none] xs 0).eval=ev at *;simp[execOp,z0,go_sem,hwp,hpq,hqs]
  ·obtain rfl:=Option.some.inj ho
   have z0:=(putL_miss [some 7,some 8,some 9,some 10,some 11,some 12,some 13,some 14,some 15,some 16,some 17,some 18,some 19,some 20,some 21,some 22,some 23,some 24,some 25,some 26,some 27,some 28,some 29,some 30,some 31,some 32,some 33,some 34,some 35,some 36,none] base xs 0 0 (by kernel_rfl)).trans y0;refine⟨by rfl,?_⟩;show _=Result.ok (Next.value (.pointer (some ⟨z,0,none⟩))) w'
   generalize (putL base [some 7,some 8,some 9,some 10,some 11,some 12,some 13,some 14,some 15,some 16,some 17,some 18,some 19,some 20,some 21,some 22,some 23,some 24,some 25,some 26,some 27,some 28,some 29,some 30,some 31,some 32,some 33,some 34,some 35,some 36,none] xs 0).eval=ev at *;simp[execOp,z0,go_sem,hwp,hpq,hqs]
  ·obtain rfl:=Option.some.inj ho
   have x1:=putL_hit [some 7,some 8,some 9,some 10,some 11,some 12,some 13,some 14,some 15,some 16,some 17,some 18,some 19,some 20,some 21,some 22,some 23,some 24,some 25,some 26,some 27,some 28,some 29,some 30,some 31,some 32,some 33,some 34,some 35,some 36,none] base xs 0 1 8 (by rfl) (by kernel_rfl) (Nat.lt_of_lt_of_le (by decide) hsz);have e1:xs 1=.pointer (some ⟨z,0,none⟩):=hV ⟨1,.data⟩ (by simp) rfl (by decide);rw[Nat.zero_add,e1]at x1;refine⟨by rfl,?_⟩;show _=Result.ok (Next.value (.pointer (some ⟨z,0,none⟩))) w'
   generalize (putL base [some 7,some 8,some 9,some 10,some 11,some 12,some 13,some 14,some 15,some 16,some 17,some 18,some 19,some 20,some 21,some 22,some 23,some 24,some 25,some 26,some 27,some 28,some 29,some 30,some 31,some 32,some 33,some 34,some 35,some 36,none] xs 0).eval=ev at *;simp[execOp,x1,go_sem,hwp,hpq,hqs]
  ·obtain rfl:=Option.some.inj ho
   have x2:=putL_hit [some 7,some 8,some 9,some 10,some 11,some 12,some 13,some 14,some 15,some 16,some 17,some 18,some 19,some 20,some 21,some 22,some 23,some 24,some 25,some 26,some 27,some 28,some 29,some 30,some 31,some 32,some 33,some 34,some 35,some 36,none] base xs 0 2 9 (by rfl) (by kernel_rfl) (Nat.lt_of_lt_of_le (by decide) hsz);have e2:xs 2=.pointer (some ⟨z,0,none⟩):=hV ⟨2,.data⟩ (by simp) rfl (by decide);rw[Nat.zero_add,e2]at x2;refine⟨by rfl,?_⟩;show _=Result.ok (Next.value (.pointer (some ⟨z,4,none⟩))) w'
   generalize (putL base [some 7,some 8,some 9,some 10,some 11,some 12,some 13,some 14,some 15,some 16,some 17,some 18,some 19,some 20,some 21,some 22,some 23,some 24,some 25,some 26,some 27,some 28,some 29,some 30,some 31,some 32,some 33,some 34,some 35,some 36,none] xs 0).eval=ev at *;simp[execOp,x2,go_sem,hwp,hpq,hqs]
  ·obtain rfl:=Option.some.inj ho
   obtain⟨c0,c1,c4⟩:=hK;have x3:=putL_hit [some 7,some 8,some 9,some 10,some 11,some 12,some 13,some 14,some 15,some 16,some 17,some 18,some 19,some 20,some 21,some 22,some 23,some 24,some 25,some 26,some 27,some 28,some 29,some 30,some 31,some 32,some 33,some 34,some 35,some 36,none] base xs 0 3 10 (by rfl) (by kernel_rfl) (Nat.lt_of_lt_of_le (by decide) hsz);have e3:xs 3=.pointer (some ⟨z,4,none⟩):=hV ⟨3,.data⟩ (by simp) rfl (by decide);rw[Nat.zero_add,e3]at x3;refine⟨by rfl,?_⟩;show _=Result.ok (Next.value (.slice A T.length c)) w'
   generalize (putL base [some 7,some 8,some 9,some 10,some 11,some 12,some 13,some 14,some 15,some 16,some 17,some 18,some 19,some 20,some 21,some 22,some 23,some 24,some 25,some 26,some 27,some 28,some 29,some 30,some 31,some 32,some 33,some 34,some 35,some 36,none] xs 0).eval=ev at *;simp[execOp,x3,c0,c1,c4,go_sem,hwp,hpq,hqs]
  ·obtain rfl:=Option.some.inj ho
   have z1:=(putL_miss [some 7,some 8,some 9,some 10,some 11,some 12,some 13,some 14,some 15,some 16,some 17,some 18,some 19,some 20,some 21,some 22,some 23,some 24,some 25,some 26,some 27,some 28,some 29,some 30,some 31,some 32,some 33,some 34,some 35,some 36,none] base xs 0 1 (by kernel_rfl)).trans y1;refine⟨by rfl,?_⟩;show _=Result.ok (Next.value (.int .i64 (k:Int))) w'
   generalize (putL base [some 7,some 8,some 9,some 10,some 11,some 12,some 13,some 14,some 15,some 16,some 17,some 18,some 19,some 20,some 21,some 22,some 23,some 24,some 25,some 26,some 27,some 28,some 29,some 30,some 31,some 32,some 33,some 34,some 35,some 36,none] xs 0).eval=ev at *;simp[execOp,z1,go_sem,hwp,hpq,hqs]
  ·obtain rfl:=Option.some.inj ho
   have z0:=(putL_miss [some 7,some 8,some 9,some 10,some 11,some 12,some 13,some 14,some 15,some 16,some 17,some 18,some 19,some 20,some 21,some 22,some 23,some 24,some 25,some 26,some 27,some 28,some 29,some 30,some 31,some 32,some 33,some 34,some 35,some 36,none] base xs 0 0 (by kernel_rfl)).trans y0;refine⟨by rfl,?_⟩;show _=Result.ok (Next.value (.pointer (some ⟨z,0,none⟩))) w'
   generalize (putL base [some 7,some 8,some 9,some 10,some 11,some 12,some 13,some 14,some 15,some 16,some 17,some 18,some 19,some 20,some 21,some 22,some 23,some 24,some 25,some 26,some 27,some 28,some 29,some 30,some 31,some 32,some 33,some 34,some 35,some 36,none] xs 0).eval=ev at *;simp[execOp,z0,go_sem,hwp,hpq,hqs]
  ·obtain rfl:=Option.some.inj ho
   have x6:=putL_hit [some 7,some 8,some 9,some 10,some 11,some 12,some 13,some 14,some 15,some 16,some 17,some 18,some 19,some 20,some 21,some 22,some 23,some 24,some 25,some 26,some 27,some 28,some 29,some 30,some 31,some 32,some 33,some 34,some 35,some 36,none] base xs 0 6 13 (by rfl) (by kernel_rfl) (Nat.lt_of_lt_of_le (by decide) hsz);have e6:xs 6=.pointer (some ⟨z,0,none⟩):=hV ⟨6,.data⟩ (by simp) rfl (by decide);rw[Nat.zero_add,e6]at x6;refine⟨by rfl,?_⟩;show _=Result.ok (Next.value (.pointer (some ⟨z,0,none⟩))) w'
   generalize (putL base [some 7,some 8,some 9,some 10,some 11,some 12,some 13,some 14,some 15,some 16,some 17,some 18,some 19,some 20,some 21,some 22,some 23,some 24,some 25,some 26,some 27,some 28,some 29,some 30,some 31,some 32,some 33,some 34,some 35,some 36,none] xs 0).eval=ev at *;simp[execOp,x6,go_sem,hwp,hpq,hqs]
  ·obtain rfl:=Option.some.inj ho
   have x7:=putL_hit [some 7,some 8,some 9,some 10,some 11,some 12,some 13,some 14,some 15,some 16,some 17,some 18,some 19,some 20,some 21,some 22,some 23,some 24,some 25,some 26,some 27,some 28,some 29,some 30,some 31,some 32,some 33,some 34,some 35,some 36,none] base xs 0 7 14 (by rfl) (by kernel_rfl) (Nat.lt_of_lt_of_le (by decide) hsz);have e7:xs 7=.pointer (some ⟨z,0,none⟩):=hV ⟨7,.data⟩ (by simp) rfl (by decide);rw[Nat.zero_add,e7]at x7;refine⟨by rfl,?_⟩;show _=Result.ok (Next.value (.pointer (some ⟨z,0,none⟩))) w'
   generalize (putL base [some 7,some 8,some 9,some 10,some 11,some 12,some 13,some 14,some 15,some 16,some 17,some 18,some 19,some 20,some 21,some 22,some 23,some 24,some 25,some 26,some 27,some 28,some 29,some 30,some 31,some 32,some 33,some 34,some 35,some 36,none] xs 0).eval=ev at *;simp[execOp,x7,go_sem,hwp,hpq,hqs]
  ·obtain rfl:=Option.some.inj ho
   obtain⟨c0,c1,c4⟩:=hK;have x8:=putL_hit [some 7,some 8,some 9,some 10,some 11,some 12,some 13,some 14,some 15,some 16,some 17,some 18,some 19,some 20,some 21,some 22,some 23,some 24,some 25,some 26,some 27,some 28,some 29,some 30,some 31,some 32,some 33,some 34,some 35,some 36,none] base xs 0 8 15 (by rfl) (by kernel_rfl) (Nat.lt_of_lt_of_le (by decide) hsz);have e8:xs 8=.pointer (some ⟨z,0,none⟩):=hV ⟨8,.data⟩ (by simp) rfl (by decide);rw[Nat.zero_add,e8]at x8;refine⟨by rfl,?_⟩;show _=Result.ok (Next.value (.string s)) w'
   generalize (putL base [some 7,some 8,some 9,some 10,some 11,some 12,some 13,some 14,some 15,some 16,some 17,some 18,some 19,some 20,some 21,some 22,some 23,some 24,some 25,some 26,some 27,some 28,some 29,some 30,some 31,some 32,some 33,some 34,some 35,some 36,none] xs 0).eval=ev at *;simp[execOp,x8,c0,c1,c4,go_sem,hwp,hpq,hqs]
  ·obtain rfl:=Option.some.inj ho
   have z0:=(putL_miss [some 7,some 8,some 9,some 10,some 11,some 12,some 13,some 14,some 15,some 16,some 17,some 18,some 19,some 20,some 21,some 22,some 23,some 24,some 25,some 26,some 27,some 28,some 29,some 30,some 31,some 32,some 33,some 34,some 35,some 36,none] base xs 0 0 (by kernel_rfl)).trans y0;refine⟨by rfl,?_⟩;show _=Result.ok (Next.value (.pointer (some ⟨z,0,none⟩))) w'
   generalize (putL base [some 7,some 8,some 9,some 10,some 11,some 12,some 13,some 14,some 15,some 16,some 17,some 18,some 19,some 20,some 21,some 22,some 23,some 24,some 25,some 26,some 27,some 28,some 29,some 30,some 31,some 32,some 33,some 34,some 35,some 36,none] xs 0).eval=ev at *;simp[execOp,z0,go_sem,hwp,hpq,hqs]
  ·obtain rfl:=Option.some.inj ho
   have x10:=putL_hit [some 7,some 8,some 9,some 10,some 11,some 12,some 13,some 14,some 15,some 16,some 17,some 18,some 19,some 20,some 21,some 22,some 23,some 24,some 25,some 26,some 27,some 28,some 29,some 30,some 31,some 32,some 33,some 34,some 35,some 36,none] base xs 0 10 17 (by rfl) (by kernel_rfl) (Nat.lt_of_lt_of_le (by decide) hsz);have e10:xs 10=.pointer (some ⟨z,0,none⟩):=hV ⟨10,.data⟩ (by simp) rfl (by decide);rw[Nat.zero_add,e10]at x10;refine⟨by rfl,?_⟩;show _=Result.ok (Next.value (.pointer (some ⟨z,0,none⟩))) w'
   generalize (putL base [some 7,some 8,some 9,some 10,some 11,some 12,some 13,some 14,some 15,some 16,some 17,some 18,some 19,some 20,some 21,some 22,some 23,some 24,some 25,some 26,some 27,some 28,some 29,some 30,some 31,some 32,some 33,some 34,some 35,some 36,none] xs 0).eval=ev at *;simp[execOp,x10,go_sem,hwp,hpq,hqs]
  ·obtain rfl:=Option.some.inj ho
   have x11:=putL_hit [some 7,some 8,some 9,some 10,some 11,some 12,some 13,some 14,some 15,some 16,some 17,some 18,some 19,some 20,some 21,some 22,some 23,some 24,some 25,some 26,some 27,some 28,some 29,some 30,some 31,some 32,some 33,some 34,some 35,some 36,none] base xs 0 11 18 (by rfl) (by kernel_rfl) (Nat.lt_of_lt_of_le (by decide) hsz);have e11:xs 11=.pointer (some ⟨z,0,none⟩):=hV ⟨11,.data⟩ (by simp) rfl (by decide);rw[Nat.zero_add,e11]at x11;refine⟨by rfl,?_⟩;show _=Result.ok (Next.value (.pointer (some ⟨z,1,none⟩))) w'
   generalize (putL base [some 7,some 8,some 9,some 10,some 11,some 12,some 13,some 14,some 15,some 16,some 17,some 18,some 19,some 20,some 21,some 22,some 23,some 24,some 25,some 26,some 27,some 28,some 29,some 30,some 31,some 32,some 33,some 34,some 35,some 36,none] xs 0).eval=ev at *;simp[execOp,x11,go_sem,hwp,hpq,hqs]
  ·obtain rfl:=Option.some.inj ho
   obtain⟨c0,c1,c4⟩:=hK;have x12:=putL_hit [some 7,some 8,some 9,some 10,some 11,some 12,some 13,some 14,some 15,some 16,some 17,some 18,some 19,some 20,some 21,some 22,some 23,some 24,some 25,some 26,some 27,some 28,some 29,some 30,some 31,some 32,some 33,some 34,some 35,some 36,none] base xs 0 12 19 (by rfl) (by kernel_rfl) (Nat.lt_of_lt_of_le (by decide) hsz);have e12:xs 12=.pointer (some ⟨z,1,none⟩):=hV ⟨12,.data⟩ (by simp) rfl (by decide);rw[Nat.zero_add,e12]at x12;refine⟨by rfl,?_⟩;show _=Result.ok (Next.value (.int .i64 (p:Int))) w'
   generalize (putL base [some 7,some 8,some 9,some 10,some 11,some 12,some 13,some 14,some 15,some 16,some 17,some 18,some 19,some 20,some 21,some 22,some 23,some 24,some 25,some 26,some 27,some 28,some 29,some 30,some 31,some 32,some 33,some 34,some 35,some 36,none] xs 0).eval=ev at *;simp[execOp,x12,c0,c1,c4,go_sem,hwp,hpq,hqs]
  ·obtain rfl:=Option.some.inj ho
   have z0:=(putL_miss [some 7,some 8,some 9,some 10,some 11,some 12,some 13,some 14,some 15,some 16,some 17,some 18,some 19,some 20,some 21,some 22,some 23,some 24,some 25,some 26,some 27,some 28,some 29,some 30,some 31,some 32,some 33,some 34,some 35,some 36,none] base xs 0 0 (by kernel_rfl)).trans y0;refine⟨by rfl,?_⟩;show _=Result.ok (Next.value (.pointer (some ⟨z,0,none⟩))) w'
   generalize (putL base [some 7,some 8,some 9,some 10,some 11,some 12,some 13,some 14,some 15,some 16,some 17,some 18,some 19,some 20,some 21,some 22,some 23,some 24,some 25,some 26,some 27,some 28,some 29,some 30,some 31,some 32,some 33,some 34,some 35,some 36,none] xs 0).eval=ev at *;simp[execOp,z0,go_sem,hwp,hpq,hqs]
  ·obtain rfl:=Option.some.inj ho
   have x14:=putL_hit [some 7,some 8,some 9,some 10,some 11,some 12,some 13,some 14,some 15,some 16,some 17,some 18,some 19,some 20,some 21,some 22,some 23,some 24,some 25,some 26,some 27,some 28,some 29,some 30,some 31,some 32,some 33,some 34,some 35,some 36,none] base xs 0 14 21 (by rfl) (by kernel_rfl) (Nat.lt_of_lt_of_le (by decide) hsz);have e14:xs 14=.pointer (some ⟨z,0,none⟩):=hV ⟨14,.data⟩ (by simp) rfl (by decide);rw[Nat.zero_add,e14]at x14;refine⟨by rfl,?_⟩;show _=Result.ok (Next.value (.pointer (some ⟨z,0,none⟩))) w'
   generalize (putL base [some 7,some 8,some 9,some 10,some 11,some 12,some 13,some 14,some 15,some 16,some 17,some 18,some 19,some 20,some 21,some 22,some 23,some 24,some 25,some 26,some 27,some 28,some 29,some 30,some 31,some 32,some 33,some 34,some 35,some 36,none] xs 0).eval=ev at *;simp[execOp,x14,go_sem,hwp,hpq,hqs]
  ·obtain rfl:=Option.some.inj ho
   have x15:=putL_hit [some 7,some 8,some 9,some 10,some 11,some 12,some 13,some 14,some 15,some 16,some 17,some 18,some 19,some 20,some 21,some 22,some 23,some 24,some 25,some 26,some 27,some 28,some 29,some 30,some 31,some 32,some 33,some 34,some 35,some 36,none] base xs 0 15 22 (by rfl) (by kernel_rfl) (Nat.lt_of_lt_of_le (by decide) hsz);have e15:xs 15=.pointer (some ⟨z,0,none⟩):=hV ⟨15,.data⟩ (by simp) rfl (by decide);rw[Nat.zero_add,e15]at x15;refine⟨by rfl,?_⟩;show _=Result.ok (Next.value (.pointer (some ⟨z,1,none⟩))) w'
   generalize (putL base [some 7,some 8,some 9,some 10,some 11,some 12,some 13,some 14,some 15,some 16,some 17,some 18,some 19,some 20,some 21,some 22,some 23,some 24,some 25,some 26,some 27,some 28,some 29,some 30,some 31,some 32,some 33,some 34,some 35,some 36,none] xs 0).eval=ev at *;simp[execOp,x15,go_sem,hwp,hpq,hqs]
  ·obtain rfl:=Option.some.inj ho
   obtain⟨c0,c1,c4⟩:=hK;have x16:=putL_hit [some 7,some 8,some 9,some 10,some 11,some 12,some 13,some 14,some 15,some 16,some 17,some 18,some 19,some 20,some 21,some 22,some 23,some 24,some 25,some 26,some 27,some 28,some 29,some 30,some 31,some 32,some 33,some 34,some 35,some 36,none] base xs 0 16 23 (by rfl) (by kernel_rfl) (Nat.lt_of_lt_of_le (by decide) hsz);have e16:xs 16=.pointer (some ⟨z,1,none⟩):=hV ⟨16,.data⟩ (by simp) rfl (by decide);rw[Nat.zero_add,e16]at x16;refine⟨by rfl,?_⟩;show _=Result.ok (Next.value (.int .i64 (p:Int))) w'
   generalize (putL base [some 7,some 8,some 9,some 10,some 11,some 12,some 13,some 14,some 15,some 16,some 17,some 18,some 19,some 20,some 21,some 22,some 23,some 24,some 25,some 26,some 27,some 28,some 29,some 30,some 31,some 32,some 33,some 34,some 35,some 36,none] xs 0).eval=ev at *;simp[execOp,x16,c0,c1,c4,go_sem,hwp,hpq,hqs]
  ·obtain rfl:=Option.some.inj ho
   have z2:=(putL_miss [some 7,some 8,some 9,some 10,some 11,some 12,some 13,some 14,some 15,some 16,some 17,some 18,some 19,some 20,some 21,some 22,some 23,some 24,some 25,some 26,some 27,some 28,some 29,some 30,some 31,some 32,some 33,some 34,some 35,some 36,none] base xs 0 2 (by kernel_rfl)).trans y2;refine⟨by rfl,?_⟩;show _=Result.ok (Next.value (.int .i64 (n:Int))) w'
   generalize (putL base [some 7,some 8,some 9,some 10,some 11,some 12,some 13,some 14,some 15,some 16,some 17,some 18,some 19,some 20,some 21,some 22,some 23,some 24,some 25,some 26,some 27,some 28,some 29,some 30,some 31,some 32,some 33,some 34,some 35,some 36,none] xs 0).eval=ev at *;simp[execOp,z2,go_sem,hwp,hpq,hqs]
  ·obtain rfl:=Option.some.inj ho
   have x17:=putL_hit [some 7,some 8,some 9,some 10,some 11,some 12,some 13,some 14,some 15,some 16,some 17,some 18,some 19,some 20,some 21,some 22,some 23,some 24,some 25,some 26,some 27,some 28,some 29,some 30,some 31,some 32,some 33,some 34,some 35,some 36,none] base xs 0 17 24 (by rfl) (by kernel_rfl) (Nat.lt_of_lt_of_le (by decide) hsz);have e17:xs 17=.int .i64 (p:Int):=hV ⟨17,.data⟩ (by simp) rfl (by decide);rw[Nat.zero_add,e17]at x17
   have x18:=putL_hit [some 7,some 8,some 9,some 10,some 11,some 12,some 13,some 14,some 15,some 16,some 17,some 18,some 19,some 20,some 21,some 22,some 23,some 24,some 25,some 26,some 27,some 28,some 29,some 30,some 31,some 32,some 33,some 34,some 35,some 36,none] base xs 0 18 25 (by rfl) (by kernel_rfl) (Nat.lt_of_lt_of_le (by decide) hsz);have e18:xs 18=.int .i64 (n:Int):=hV ⟨18,.data⟩ (by simp) rfl (by decide);rw[Nat.zero_add,e18]at x18;refine⟨by rfl,?_⟩;show _=Result.ok (Next.value (.int .i64 (q:Int))) w'
   generalize (putL base [some 7,some 8,some 9,some 10,some 11,some 12,some 13,some 14,some 15,some 16,some 17,some 18,some 19,some 20,some 21,some 22,some 23,some 24,some 25,some 26,some 27,some 28,some 29,some 30,some 31,some 32,some 33,some 34,some 35,some 36,none] xs 0).eval=ev at *;simp[execOp,x17,x18,go_sem,hwp,hpq,hqs]
  ·obtain rfl:=Option.some.inj ho
   have x9:=putL_hit [some 7,some 8,some 9,some 10,some 11,some 12,some 13,some 14,some 15,some 16,some 17,some 18,some 19,some 20,some 21,some 22,some 23,some 24,some 25,some 26,some 27,some 28,some 29,some 30,some 31,some 32,some 33,some 34,some 35,some 36,none] base xs 0 9 16 (by rfl) (by kernel_rfl) (Nat.lt_of_lt_of_le (by decide) hsz);have e9:xs 9=.string s:=hV ⟨9,.data⟩ (by simp) rfl (by decide);rw[Nat.zero_add,e9]at x9
   have x13:=putL_hit [some 7,some 8,some 9,some 10,some 11,some 12,some 13,some 14,some 15,some 16,some 17,some 18,some 19,some 20,some 21,some 22,some 23,some 24,some 25,some 26,some 27,some 28,some 29,some 30,some 31,some 32,some 33,some 34,some 35,some 36,none] base xs 0 13 20 (by rfl) (by kernel_rfl) (Nat.lt_of_lt_of_le (by decide) hsz);have e13:xs 13=.int .i64 (p:Int):=hV ⟨13,.data⟩ (by simp) rfl (by decide);rw[Nat.zero_add,e13]at x13
   have x19:=putL_hit [some 7,some 8,some 9,some 10,some 11,some 12,some 13,some 14,some 15,some 16,some 17,some 18,some 19,some 20,some 21,some 22,some 23,some 24,some 25,some 26,some 27,some 28,some 29,some 30,some 31,some 32,some 33,some 34,some 35,some 36,none] base xs 0 19 26 (by rfl) (by kernel_rfl) (Nat.lt_of_lt_of_le (by decide) hsz);have e19:xs 19=.int .i64 (q:Int):=hV ⟨19,.data⟩ (by simp) rfl (by decide);rw[Nat.zero_add,e19]at x19;refine⟨by rfl,?_⟩;show _=Result.ok (Next.value (.string (s.extract p q))) w'
   generalize (putL base [some 7,some 8,some 9,some 10,some 11,some 12,some 13,some 14,some 15,some 16,some 17,some 18,some 19,some 20,some 21,some 22,some 23,some 24,some 25,some 26,some 27,some 28,some 29,some 30,some 31,some 32,some 33,some 34,some 35,some 36,none] xs 0).eval=ev at *;simp[execOp,x9,x13,x19,go_sem,hwp,hpq,hqs]
  ·obtain rfl:=Option.some.inj ho
   have z0:=(putL_miss [some 7,some 8,some 9,some 10,some 11,some 12,some 13,some 14,some 15,some 16,some 17,some 18,some 19,some 20,some 21,some 22,some 23,some 24,some 25,some 26,some 27,some 28,some 29,some 30,some 31,some 32,some 33,some 34,some 35,some 36,none] base xs 0 0 (by kernel_rfl)).trans y0;refine⟨by rfl,?_⟩;show _=Result.ok (Next.value (.pointer (some ⟨z,0,none⟩))) w'
   generalize (putL base [some 7,some 8,some 9,some 10,some 11,some 12,some 13,some 14,some 15,some 16,some 17,some 18,some 19,some 20,some 21,some 22,some 23,some 24,some 25,some 26,some 27,some 28,some 29,some 30,some 31,some 32,some 33,some 34,some 35,some 36,none] xs 0).eval=ev at *;simp[execOp,z0,go_sem,hwp,hpq,hqs]
  ·obtain rfl:=Option.some.inj ho
   have x21:=putL_hit [some 7,some 8,some 9,some 10,some 11,some 12,some 13,some 14,some 15,some 16,some 17,some 18,some 19,some 20,some 21,some 22,some 23,some 24,some 25,some 26,some 27,some 28,some 29,some 30,some 31,some 32,some 33,some 34,some 35,some 36,none] base xs 0 21 28 (by rfl) (by kernel_rfl) (Nat.lt_of_lt_of_le (by decide) hsz);have e21:xs 21=.pointer (some ⟨z,0,none⟩):=hV ⟨21,.data⟩ (by simp) rfl (by decide);rw[Nat.zero_add,e21]at x21;refine⟨by rfl,?_⟩;show _=Result.ok (Next.value (.pointer (some ⟨z,0,none⟩))) w'
   generalize (putL base [some 7,some 8,some 9,some 10,some 11,some 12,some 13,some 14,some 15,some 16,some 17,some 18,some 19,some 20,some 21,some 22,some 23,some 24,some 25,some 26,some 27,some 28,some 29,some 30,some 31,some 32,some 33,some 34,some 35,some 36,none] xs 0).eval=ev at *;simp[execOp,x21,go_sem,hwp,hpq,hqs]
  ·obtain rfl:=Option.some.inj ho
   have x22:=putL_hit [some 7,some 8,some 9,some 10,some 11,some 12,some 13,some 14,some 15,some 16,some 17,some 18,some 19,some 20,some 21,some 22,some 23,some 24,some 25,some 26,some 27,some 28,some 29,some 30,some 31,some 32,some 33,some 34,some 35,some 36,none] base xs 0 22 29 (by rfl) (by kernel_rfl) (Nat.lt_of_lt_of_le (by decide) hsz);have e22:xs 22=.pointer (some ⟨z,0,none⟩):=hV ⟨22,.data⟩ (by simp) rfl (by decide);rw[Nat.zero_add,e22]at x22;refine⟨by rfl,?_⟩;show _=Result.ok (Next.value (.pointer (some ⟨z,1,none⟩))) w'
   generalize (putL base [some 7,some 8,some 9,some 10,some 11,some 12,some 13,some 14,some 15,some 16,some 17,some 18,some 19,some 20,some 21,some 22,some 23,some 24,some 25,some 26,some 27,some 28,some 29,some 30,some 31,some 32,some 33,some 34,some 35,some 36,none] xs 0).eval=ev at *;simp[execOp,x22,go_sem,hwp,hpq,hqs]
  ·obtain rfl:=Option.some.inj ho
   obtain⟨c0,c1,c4⟩:=hK;have x23:=putL_hit [some 7,some 8,some 9,some 10,some 11,some 12,some 13,some 14,some 15,some 16,some 17,some 18,some 19,some 20,some 21,some 22,some 23,some 24,some 25,some 26,some 27,some 28,some 29,some 30,some 31,some 32,some 33,some 34,some 35,some 36,none] base xs 0 23 30 (by rfl) (by kernel_rfl) (Nat.lt_of_lt_of_le (by decide) hsz);have e23:xs 23=.pointer (some ⟨z,1,none⟩):=hV ⟨23,.data⟩ (by simp) rfl (by decide);rw[Nat.zero_add,e23]at x23;refine⟨by rfl,?_⟩;show _=Result.ok (Next.value (.int .i64 (p:Int))) w'
   generalize (putL base [some 7,some 8,some 9,some 10,some 11,some 12,some 13,some 14,some 15,some 16,some 17,some 18,some 19,some 20,some 21,some 22,some 23,some 24,some 25,some 26,some 27,some 28,some 29,some 30,some 31,some 32,some 33,some 34,some 35,some 36,none] xs 0).eval=ev at *;simp[execOp,x23,c0,c1,c4,go_sem,hwp,hpq,hqs]
  ·obtain rfl:=Option.some.inj ho
   have x5:=putL_hit [some 7,some 8,some 9,some 10,some 11,some 12,some 13,some 14,some 15,some 16,some 17,some 18,some 19,some 20,some 21,some 22,some 23,some 24,some 25,some 26,some 27,some 28,some 29,some 30,some 31,some 32,some 33,some 34,some 35,some 36,none] base xs 0 5 12 (by rfl) (by kernel_rfl) (Nat.lt_of_lt_of_le (by decide) hsz);have e5:xs 5=.int .i64 (k:Int):=hV ⟨5,.data⟩ (by simp) rfl (by decide);rw[Nat.zero_add,e5]at x5
   have x20:=putL_hit [some 7,some 8,some 9,some 10,some 11,some 12,some 13,some 14,some 15,some 16,some 17,some 18,some 19,some 20,some 21,some 22,some 23,some 24,some 25,some 26,some 27,some 28,some 29,some 30,some 31,some 32,some 33,some 34,some 35,some 36,none] base xs 0 20 27 (by rfl) (by kernel_rfl) (Nat.lt_of_lt_of_le (by decide) hsz);have e20:xs 20=.string (s.extract p q):=hV ⟨20,.data⟩ (by simp) rfl (by decide);rw[Nat.zero_add,e20]at x20
   have x24:=putL_hit [some 7,some 8,some 9,some 10,some 11,some 12,some 13,some 14,some 15,some 16,some 17,some 18,some 19,some 20,some 21,some 22,some 23,some 24,some 25,some 26,some 27,some 28,some 29,some 30,some 31,some 32,some 33,some 34,some 35,some 36,none] base xs 0 24 31 (by rfl) (by kernel_rfl) (Nat.lt_of_lt_of_le (by decide) hsz);have e24:xs 24=.int .i64 (p:Int):=hV ⟨24,.data⟩ (by simp) rfl (by decide);rw[Nat.zero_add,e24]at x24;refine⟨by rfl,?_⟩;show _=Result.ok (Next.value (.agg #[.int .i64 (k:Int),.string (s.extract p q),.int .i64 (p:Int)])) w'
   generalize (putL base [some 7,some 8,some 9,some 10,some 11,some 12,some 13,some 14,some 15,some 16,some 17,some 18,some 19,some 20,some 21,some 22,some 23,some 24,some 25,some 26,some 27,some 28,some 29,some 30,some 31,some 32,some 33,some 34,some 35,some 36,none] xs 0).eval=ev at *;simp[execOp,x5,x20,x24,go_sem,hwp,hpq,hqs]
  ·exact absurd rfl hia
  ·exact absurd rfl hib
  ·obtain rfl:=Option.some.inj ho
   have x0:=putL_hit [some 7,some 8,some 9,some 10,some 11,some 12,some 13,some 14,some 15,some 16,some 17,some 18,some 19,some 20,some 21,some 22,some 23,some 24,some 25,some 26,some 27,some 28,some 29,some 30,some 31,some 32,some 33,some 34,some 35,some 36,none] base xs 0 0 7 (by rfl) (by kernel_rfl) (Nat.lt_of_lt_of_le (by decide) hsz);have e0:xs 0=.pointer (some ⟨z,0,none⟩):=hV ⟨0,.data⟩ (by simp) rfl (by decide);rw[Nat.zero_add,e0]at x0;refine⟨by rfl,?_⟩;show _=Result.ok (Next.value (.pointer (some ⟨z,0,none⟩))) w'
   generalize (putL base [some 7,some 8,some 9,some 10,some 11,some 12,some 13,some 14,some 15,some 16,some 17,some 18,some 19,some 20,some 21,some 22,some 23,some 24,some 25,some 26,some 27,some 28,some 29,some 30,some 31,some 32,some 33,some 34,some 35,some 36,none] xs 0).eval=ev at *;simp[execOp,x0,go_sem,hwp,hpq,hqs]
  ·obtain rfl:=Option.some.inj ho
   have x28:=putL_hit [some 7,some 8,some 9,some 10,some 11,some 12,some 13,some 14,some 15,some 16,some 17,some 18,some 19,some 20,some 21,some 22,some 23,some 24,some 25,some 26,some 27,some 28,some 29,some 30,some 31,some 32,some 33,some 34,some 35,some 36,none] base xs 0 28 35 (by rfl) (by kernel_rfl) (Nat.lt_of_lt_of_le (by decide) hsz);have e28:xs 28=.pointer (some ⟨z,0,none⟩):=hV ⟨28,.data⟩ (by simp) rfl (by decide);rw[Nat.zero_add,e28]at x28;refine⟨by rfl,?_⟩;show _=Result.ok (Next.value (.pointer (some ⟨z,4,none⟩))) w'
   generalize (putL base [some 7,some 8,some 9,some 10,some 11,some 12,some 13,some 14,some 15,some 16,some 17,some 18,some 19,some 20,some 21,some 22,some 23,some 24,some 25,some 26,some 27,some 28,some 29,some 30,some 31,some 32,some 33,some 34,some 35,some 36,none] xs 0).eval=ev at *;simp[execOp,x28,go_sem,hwp,hpq,hqs]
  ·exact absurd rfl hiL
 ·clear hbase
  intro o ho xs w' hM hV;obtain rfl:=Option.some.inj ho;have x25:=putL_hit [some 7,some 8,some 9,some 10,some 11,some 12,some 13,some 14,some 15,some 16,some 17,some 18,some 19,some 20,some 21,some 22,some 23,some 24,some 25,some 26,some 27,some 28,some 29,some 30,some 31,some 32,some 33,some 34,some 35,some 36,none] base xs 0 25 32 (by rfl) (by kernel_rfl) (Nat.lt_of_lt_of_le (by decide) hsz);have e25:xs 25=.agg #[.int .i64 (k:Int),.string (s.extract p q),.int .i64 (p:Int)]:=hV ⟨25,.data⟩ (by simp) rfl (by decide);rw[Nat.zero_add,e25]at x25;obtain⟨m1,m2,m3,m4⟩:=hM
  refine⟨w'.alloc (.cells #[.int .i64 (k:Int),.string (s.extract p q),.int .i64 (p:Int)] 53),⟨by rfl,?_⟩,?_⟩
  ·show _=Result.ok (Next.value (Value.slice (some ⟨w.heap.size,0,none⟩) 1 1)) _
   rw[←m4];generalize (putL base [some 7,some 8,some 9,some 10,some 11,some 12,some 13,some 14,some 15,some 16,some 17,some 18,some 19,some 20,some 21,some 22,some 23,some 24,some 25,some 26,some 27,some 28,some 29,some 30,some 31,some 32,some 33,some 34,some 35,some 36,none] xs 0).eval=ev at *;simp[execOp,x25,go_sem]
  ·refine⟨m1.below ((Below.refl _ _).alloc (Nat.le_refl _) _),m2.alloc _,m3.alloc (Nat.le_of_lt m1.lt) _,?_⟩
   rw[←m4];exact heap_alloc_new w' _
 ·clear hbase
  intro o ho xs w' hM hV;obtain rfl:=Option.some.inj ho;have x4:=putL_hit [some 7,some 8,some 9,some 10,some 11,some 12,some 13,some 14,some 15,some 16,some 17,some 18,some 19,some 20,some 21,some 22,some 23,some 24,some 25,some 26,some 27,some 28,some 29,some 30,some 31,some 32,some 33,some 34,some 35,some 36,none] base xs 0 4 11 (by rfl) (by kernel_rfl) (Nat.lt_of_lt_of_le (by decide) hsz);have e4:xs 4=.slice A T.length c:=hV ⟨4,.data⟩ (by simp) rfl (by decide);rw[Nat.zero_add,e4]at x4
  have x26:=putL_hit [some 7,some 8,some 9,some 10,some 11,some 12,some 13,some 14,some 15,some 16,some 17,some 18,some 19,some 20,some 21,some 22,some 23,some 24,some 25,some 26,some 27,some 28,some 29,some 30,some 31,some 32,some 33,some 34,some 35,some 36,none] base xs 0 26 33 (by rfl) (by kernel_rfl) (Nat.lt_of_lt_of_le (by decide) hsz);have e26:xs 26=.slice (some ⟨w.heap.size,0,none⟩) 1 1:=hV ⟨26,.data⟩ (by simp) rfl (by decide);rw[Nat.zero_add,e26]at x26;obtain⟨m1,m2,m3,m4⟩:=hM;obtain⟨i1,hi1,hz0,hz1,hz2⟩:=info_parts info_token
  obtain⟨v',w'',hrun,h2,h3,_,h5⟩:=run_append_own_at (P:=prog) w' (z+1) 48 48 53 i1 _ 3 32 underlying48 hi1 hz0 hz1 hz2 rfl (by decide) (.slice A T.length c) T.length (SC.cellsT T) m2 ⟨w.heap.size,0,none⟩ 1 1 [.int .i64 (k:Int),.string (s.extract p q),.int .i64 (p:Int)] rfl (by
   intro j u hj;rw[add_plain,Nat.zero_add,cell_of_row w' w.heap.size j _ _ _ m4];simpa using hj) (by simp[Value.oneCell']) (by unfold maxLen;have:=HPN.o;omega) (by have:=HPN.o;omega) (by have:=m1.lt;omega)
  refine⟨v',w'',⟨by rfl,?_⟩,?_⟩
  ·generalize (putL base [some 7,some 8,some 9,some 10,some 11,some 12,some 13,some 14,some 15,some 16,some 17,some 18,some 19,some 20,some 21,some 22,some 23,some 24,some 25,some 26,some 27,some 28,some 29,some 30,some 31,some 32,some 33,some 34,some 35,some 36,none] xs 0).eval=ev at *
   unfold execOp;simp[resolve,invoke,builtin,Sem.run_bind,Sem.run_pure,Result.andThen_ok,x4,x26,hrun]
  ·obtain⟨A',c',rfl⟩:=own_shape h2
   exact⟨(h3.block z m1.lt (fun e=>by have:=(m2.lt z e.symm).1;omega)).trans m1,m3.grown h3 (Nat.le_of_lt m1.lt) (fun k hk=>by have:=(m2.lt k hk).1;omega),A',c',rfl,h2⟩
 ·intro xs w' hP hA
  have x29:=putL_hit [some 7,some 8,some 9,some 10,some 11,some 12,some 13,some 14,some 15,some 16,some 17,some 18,some 19,some 20,some 21,some 22,some 23,some 24,some 25,some 26,some 27,some 28,some 29,some 30,some 31,some 32,some 33,some 34,some 35,some 36,none] base xs 0 29 36 (by rfl) (by kernel_rfl) (Nat.lt_of_lt_of_le (by decide) hsz);have e29:xs 29=.pointer (some ⟨z,4,none⟩):=hA 29 (by exact Nat.le_of_ble_eq_true rfl) (by decide) (by decide);rw[Nat.zero_add,e29]at x29
  have x27:=putL_hit [some 7,some 8,some 9,some 10,some 11,some 12,some 13,some 14,some 15,some 16,some 17,some 18,some 19,some 20,some 21,some 22,some 23,some 24,some 25,some 26,some 27,some 28,some 29,some 30,some 31,some 32,some 33,some 34,some 35,some 36,none] base xs 0 27 34 (by rfl) (by kernel_rfl) (Nat.lt_of_lt_of_le (by decide) hsz);rw[Nat.zero_add]at x27;obtain⟨m1,m3,A',c',hv,m2⟩:=hP;rw[hv]at x27 m2;have k4:=m1.cell 4 (by simp);have f4:=m1.frozen 4;simp only[List.getElem_cons_zero,List.getElem_cons_succ]at k4
  refine wpOp_void rfl rfl (w':=w'.setCell ⟨z,4,none⟩ (.slice A' (T.length+1) c')) ?_ ?_
  ·clear hbase
   generalize (putL base [some 7,some 8,some 9,some 10,some 11,some 12,some 13,some 14,some 15,some 16,some 17,some 18,some 19,some 20,some 21,some 22,some 23,some 24,some 25,some 26,some 27,some 28,some 29,some 30,some 31,some 32,some 33,some 34,some 35,some 36,none] xs 0).eval=ev at *;simp[execOp,x27,x29,go_sem,k4,f4]
  ·have HZ:=hd (m1.set 4 (.slice A' (T.length+1) c'))
   have HO:=hd (ownsRow_setCell_below m2 (a:=⟨z,4,none⟩) (Nat.lt_succ_self z) (.slice A' (T.length+1) c'));have HBZ:=hd (m3.setCell (p:=⟨z,4,none⟩) (Nat.le_refl z) (.slice A' (T.length+1) c'));rw[hbase];simp only[putL];clear hbase x27 x29 k4 f4 m1 m2 m3 hv hA;generalize w'.setCell ⟨z,4,none⟩ (.slice A' (T.length+1) c')=wz at *;have d1:=HZ.o.cell 1 (by simp);have g1:=HZ.o.frozen 1;simp only[List.getElem_cons_zero,List.getElem_cons_succ,List.set_cons_succ,List.set_cons_zero]at d1 HZ;have HZ2:=hd (HZ.o.set 1 (.int .i64 (q:Int)))
   have HO2:=hd (ownsRow_setCell_below HO.o (a:=⟨z,1,none⟩) (Nat.lt_succ_self z) (.int .i64 (q:Int)));have HB2:=hd (HBZ.o.setCell (p:=⟨z,1,none⟩) (Nat.le_refl z) (.int .i64 (q:Int)));simp only[List.set_cons_succ,List.set_cons_zero]at HZ2
   go_simp
   go_wp2;go_ret;refine⟨rfl,⟨⟨A',T.length+1,c',HZ2.o,?_,by simp⟩,HB2.o,by have:=HPN.o;simp;omega,by have:=HPN.o;omega⟩⟩;rw[List.length_append,SC.cellsT_app];exact HO2.o
end Go.Proofs.YtieknenhfeejiaaGreatDoor
namespace Go.Proofs
open Go.Shelf
shelf_lay Lays.n144 Nm 144 at Tryz as Tryz.laysN144
namespace YtieknenhfeejiaaGreatDoor
open _root_.Go.Proofs.Tryz
open Go.RowKit
namespace SC
theorem scidx (c:UInt8):∀l:List UInt8,decide (0≤Lib.indexByte l c)=l.any (fun b=>b==c)
 |[]=>rfl
 |b::l=>by
  have ih:=scidx c l;have hg:=Lib.indexByte_ge l c;unfold Lib.indexByte;rw[List.any_cons];by_cases h:(b==c)=true
  ·rw[if_pos h,h];rfl
  ·rw[if_neg h]
   have h2:(b==c)=false:=(by simpa using h);rw[h2,Bool.false_or,←ih];by_cases h3:(Lib.indexByte l c==-1)=true
   ·rw[if_pos h3]
    have:Lib.indexByte l c = -1:=(by simpa using h3);rw[this]
   ·rw[if_neg h3]
    have:Lib.indexByte l c≠-1:=(by simpa using h3);rw[decide_eq_decide];omega
theorem any58 (l:List UInt8):l.any (fun b=>b==(58:UInt8))=l.any (fun c=>c.toNat==58):=by
 congr 1
 funext b
 rw[Bool.eq_iff_iff,beq_iff_eq,beq_iff_eq]
 constructor
 ·intro h;rw[h];rfl
 ·intro h;exact UInt8.toNat_inj.1 h
theorem low_toNat (c:UInt8):(lowU c).toNat=low c:=by
 unfold low;by_cases h:65≤c.toNat∧c.toNat≤90
 ·rw[lowU_yes h,if_pos h]
 ·rw[lowU_no h,if_neg h]
theorem map_low (l:List UInt8)(w:List UInt8):l.map lowU=w↔l.map low=w.map UInt8.toNat:=by
 have e:l.map low=(l.map lowU).map UInt8.toNat:=(by rw[List.map_map];congr 1;funext c;exact(low_toNat c).symm);rw[e]
 constructor
 ·intro h;rw[h]
 ·intro h;exact(List.map_inj_right (fun a b h=>UInt8.toNat_inj.1 h)).1 h
theorem low3 (l:List UInt8)(w:List UInt8)(hw:w.length=3)(m:Nat)(hm:m=min l.length 4):(l.take m).map lowU=w↔l.map low=w.map UInt8.toNat:=by
 constructor
 ·intro h
  have hl:=congrArg List.length h;rw[List.length_map,List.length_take,hw]at hl;rw[List.take_of_length_le (by omega)]at h;exact(map_low l w).1 h
 ·intro h
  have hl:=congrArg List.length h;rw[List.length_map,List.length_map,hw]at hl;rw[List.take_of_length_le (by omega)];exact(map_low l w).2 h
theorem inf_test (t:ByteArray)(m:Nat)(hm:m=min t.size 4) :
  (((lowS (t.extract 0 m)).toList==[105,110,102]) ||((lowS (t.extract 0 m)).toList==[110,97,110]))=isNum t.data.toList:=by
 have e:(lowS (t.extract 0 m)).toList=(t.data.toList.take m).map lowU:=by
  unfold lowS;rw[ByteArray.toList_eq];have:=SP.ext_list t 0 m;rw[Nat.zero_add,List.drop_zero]at this;rw[this]
 rw[e];unfold isNum;rw[Bool.eq_iff_iff,Bool.or_eq_true,beq_iff_eq,beq_iff_eq,decide_eq_true_eq,low3 _ _ rfl m (by rw[hm,Lib.size_eq]),low3 _ _ rfl m (by rw[hm,Lib.size_eq])];rfl
end SC
section
variable {z:Nat} {w0 w w':World} {s:ByteArray} {p:Nat} {br sq:Bool} {T:List SC.Tk}
theorem SC.Zs.c0 (h:SC.Zs z w0 w s p br sq T):w.cell? ⟨z,0,none⟩=some (.string s):=by
 obtain⟨A,n,c,h1,_⟩:=h.ex;exact h1.cell 0 (by simp)
theorem SC.Zs.c1 (h:SC.Zs z w0 w s p br sq T):w.cell? ⟨z,1,none⟩=some (.int .i64 (p:Int)):=by
 obtain⟨A,n,c,h1,_⟩:=h.ex;exact h1.cell 1 (by simp)
theorem SC.Zs.c2 (h:SC.Zs z w0 w s p br sq T):w.cell? ⟨z,2,none⟩=some (.bool br):=by
 obtain⟨A,n,c,h1,_⟩:=h.ex;exact h1.cell 2 (by simp)
theorem SC.Zs.c3 (h:SC.Zs z w0 w s p br sq T):w.cell? ⟨z,3,none⟩=some (.bool sq):=by
 obtain⟨A,n,c,h1,_⟩:=h.ex;exact h1.cell 3 (by simp)
theorem SC.Zs.fz (h:SC.Zs z w0 w s p br sq T)(j:Nat):w.frozen? ⟨z,j,none⟩=false:=by
 obtain⟨A,n,c,h1,_⟩:=h.ex;exact h1.frozen j
theorem SC.Zs.setB (h:SC.Zs z w0 w s p br sq T)(b:Bool):SC.Zs z w0 (w.setCell ⟨z,2,none⟩ (.bool b)) s p b sq T:=by
 obtain⟨A,n,c,h1,h2,h3⟩:=h.ex;exact⟨⟨A,n,c,by have:=h1.set 2 (.bool b);simpa using this,ownsRow_setCell_below h2 (a:=⟨z,2,none⟩) (Nat.lt_succ_self z) _,h3⟩,h.bel.setCell (p:=⟨z,2,none⟩) (Nat.le_refl z) _,h.le,h.ps⟩
theorem SC.Zs.setS (h:SC.Zs z w0 w s p br sq T)(b:Bool):SC.Zs z w0 (w.setCell ⟨z,3,none⟩ (.bool b)) s p br b T:=by
 obtain⟨A,n,c,h1,h2,h3⟩:=h.ex;exact⟨⟨A,n,c,by have:=h1.set 3 (.bool b);simpa using this,ownsRow_setCell_below h2 (a:=⟨z,3,none⟩) (Nat.lt_succ_self z) _,h3⟩,h.bel.setCell (p:=⟨z,3,none⟩) (Nat.le_refl z) _,h.le,h.ps⟩
theorem SC.Zs.setP (h:SC.Zs z w0 w s p br sq T)(q:Nat)(hq:p≤q)(hs:q≤s.size):SC.Zs z w0 (w.setCell ⟨z,1,none⟩ (.int .i64 (q:Int))) s q br sq T:=by
 obtain⟨A,n,c,h1,h2,h3⟩:=h.ex;exact⟨⟨A,n,c,by have:=h1.set 1 (.int .i64 (q:Int));simpa using this,ownsRow_setCell_below h2 (a:=⟨z,1,none⟩) (Nat.lt_succ_self z) _,h3⟩,h.bel.setCell (p:=⟨z,1,none⟩) (Nat.le_refl z) _,Nat.le_trans h.le hq,hs⟩
end
def SC.TokS (z:Nat)(w0:World)(s:ByteArray)(p:Nat)(T:List SC.Tk)(r:SC.R)(e:Ending)(w':World):Prop:=
 match r with
 | .ok k n b q=>e=.returned (.int .i64 0)∧SC.Zs z w0 w' s (p+n) b q (T++[⟨k,s.extract p (p+n),p⟩])
 | .bad er=>e=.returned (.int .i64 er)∧∃b q,SC.Zs z w0 w' s p b q T
theorem scname_any (z:Nat)(w0 w:World)(s:ByteArray)(p n:Nat)(br sq:Bool)(T:List SC.Tk)(Z:SC.Zs z w0 w s p br sq T)(hn:0<n)(hpn:p+n≤s.size)(hs:s.size≤33554432) :
  Calls prog 82 #[.pointer (some ⟨z,0,none⟩),.int .i64 n] w fun e w'=>e=.returned (.int .i64 0)∧SC.Zs z w0 w' s (p+n) br sq (T++[⟨SC.nameK br ((s.data.toList.drop p).take n),s.extract p (p+n),p⟩]):=by
 have HZ:=hd Z;obtain⟨A,n',c,h1,_,_⟩:=Z.ex;have c0:=h1.cell 0 (by simp);have c1:=h1.cell 1 (by simp);simp only[List.getElem_cons_zero,List.getElem_cons_succ]at c0 c1;have CP:=hd (fun (W:World) (k:Nat) (hZ:SC.Zs z w0 W s p br sq T)=>scput_any z w0 W s p n k br sq T hZ hn hpn hs);have CP1:=hd (fun (W:World) (hZ:SC.Zs z w0 W s p br sq T)=>by have h:=CP.o W 1 hZ;exact h);have CP2:=hd (fun (W:World) (hZ:SC.Zs z w0 W s p br sq T)=>by have h:=CP.o W 2 hZ;exact h);have CP3:=hd (fun (W:World) (hZ:SC.Zs z w0 W s p br sq T)=>by have h:=CP.o W 3 hZ;exact h);rw[show ((1:Nat):Int)=1 from rfl]at CP1
 rw[show ((2:Nat):Int)=2 from rfl]at CP2;rw[show ((3:Nat):Int)=3 from rfl]at CP3;clear h1 Z CP;obtain⟨q,hq⟩:∃q,q=p+n:=⟨_,rfl⟩
 have hwp:IntKind.i64.wrap ((p:Int)+(n:Int))=(q:Int):=(by rw[IntKind.wrap_i64];omega);have hpq:(p:Int)≤(q:Int):=(by omega);have hqs:(q:Int)≤(s.size:Int):=(by omega);have HT:Hd ((s.extract p q).size=n):=hd (by rw[ByteArray.size_extract];omega);have HL:Hd ((s.extract p q).data.toList=(s.data.toList.drop p).take n):=hd (by rw[hq];exact SP.ext_list s p n);rw[←hq]at CP1 CP2 CP3 ⊢;have HN:=hd (show 0<n∧q=p+n∧q≤s.size by omega);rw[←HL.o];obtain⟨m,hm⟩:∃m,m=min n 4:=⟨_,rfl⟩
 have CL:=hd (fun W:World=>sclower_any ((s.extract p q).extract 0 m) W (by rw[ByteArray.size_extract,HT.o];omega));have HNUM:=hd (SC.inf_test (s.extract p q) m (by rw[HT.o];exact hm));have CC:=hd (fun W:World=>by have h:=Any.strings_Contains_one Tryz.laysN144 (s.extract p q) 58 W;rw[SC.scidx,SC.any58]at h;exact h);clear hq hpn;go_enter func82,ntmps82;go_wp2_with fail
 go_region
 obtain⟨w1,hw1⟩:∃w1,w1=w.drew:=⟨_,rfl⟩
 rw[←hw1];replace HZ:Hd (SC.Zs z w0 w1 s p br sq T):=hd (by rw[hw1];exact HZ.o.below (Below.refl _ _).drew);clear hw1 c0 c1;generalize hgt:s.extract p q=t at *;have HTQ:=hd hgt;clear hgt;obtain⟨x,HX⟩:∃x,Hd (SC.lowS (t.extract 0 m)=x):=⟨_,hd rfl⟩
 rw[HX.o]at CL HNUM;obtain⟨u,HU⟩:∃u,Hd (t.data.toList.any (fun c=>c.toNat==58)=u):=⟨_,hd rfl⟩
 rw[HU.o]at CC;have htn:(t.size:Int)=(n:Int):=(by have:=HT.o;omega);clear HX HL HT;have hm0:(0:Int)≤min (n:Int) 4:=(by omega);have hm1:min (n:Int) 4≤(n:Int):=(by omega);have HMN:Hd ((min (n:Int) 4).toNat=m):=hd (by omega);rw[←HMN.o]at CL;clear hm;cases u with
 |true=>
  have HK:Hd (SC.nameK br t.data.toList=2):=hd (by unfold SC.nameK;rw[HU.o];rfl);clear HNUM;go_wp2_with (first
   |(go_at_call 115;refine(CL.o _).mono ?_;rintro e w2 ⟨rfl,hb2⟩;have HZ2:=hd (HZ.o.below hb2);have b2:=HZ2.o.c2)
   |(go_at_call 116;refine(CC.o _).mono ?_;rintro e w3 ⟨rfl,rfl⟩)
   |(go_at_call 83;refine(CP2.o _ HZ2.o).mono ?_;rintro e w4 ⟨rfl,hz4⟩))
  go_ret;exact⟨rfl,by rw[HTQ.o,HK.o];exact hz4⟩
 |false=>
  cases br with
  |true=>
   have HK:Hd (SC.nameK true t.data.toList=1):=hd (by unfold SC.nameK;rw[HU.o];rfl);clear HNUM;go_wp2_with (first
    |(go_at_call 115;refine(CL.o _).mono ?_;rintro e w2 ⟨rfl,hb2⟩;have HZ2:=hd (HZ.o.below hb2);have b2:=HZ2.o.c2)
    |(go_at_call 116;refine(CC.o _).mono ?_;rintro e w3 ⟨rfl,rfl⟩)
    |(go_at_call 83;refine(CP1.o _ HZ2.o).mono ?_;rintro e w4 ⟨rfl,hz4⟩))
   go_ret;exact⟨rfl,by rw[HTQ.o,HK.o];exact hz4⟩
  |false=>
   cases ha1:(x.toList==[105,110,102]) with
   |true=>
    have HK:Hd (SC.nameK false t.data.toList=3):=hd (by unfold SC.nameK;rw[HU.o,←HNUM.o,ha1];rfl);clear HNUM;go_wp2_with (first
     |(go_at_call 115;refine(CL.o _).mono ?_;rintro e w2 ⟨rfl,hb2⟩;have HZ2:=hd (HZ.o.below hb2);have b2:=HZ2.o.c2)
     |(go_at_call 116;refine(CC.o _).mono ?_;rintro e w3 ⟨rfl,rfl⟩)
     |(go_at_call 83;refine(CP3.o _ HZ2.o).mono ?_;rintro e w4 ⟨rfl,hz4⟩))
    go_ret;exact⟨rfl,by rw[HTQ.o,HK.o];exact hz4⟩
   |false=>
    cases ha2:(x.toList==[110,97,110]) with
    |true=>
     have HK:Hd (SC.nameK false t.data.toList=3):=hd (by unfold SC.nameK;rw[HU.o,←HNUM.o,ha1,ha2];rfl);clear HNUM;go_wp2_with (first
      |(go_at_call 115;refine(CL.o _).mono ?_;rintro e w2 ⟨rfl,hb2⟩;have HZ2:=hd (HZ.o.below hb2);have b2:=HZ2.o.c2)
      |(go_at_call 116;refine(CC.o _).mono ?_;rintro e w3 ⟨rfl,rfl⟩)
      |(go_at_call 83;refine(CP3.o _ HZ2.o).mono ?_;rintro e w4 ⟨rfl,hz4⟩))
     go_ret;exact⟨rfl,by rw[HTQ.o,HK.o];exact hz4⟩
    |false=>
     have HK:Hd (SC.nameK false t.data.toList=1):=hd (by unfold SC.nameK;rw[HU.o,←HNUM.o,ha1,ha2];rfl);clear HNUM;go_wp2_with (first
      |(go_at_call 115;refine(CL.o _).mono ?_;rintro e w2 ⟨rfl,hb2⟩;have HZ2:=hd (HZ.o.below hb2);have b2:=HZ2.o.c2)
      |(go_at_call 116;refine(CC.o _).mono ?_;rintro e w3 ⟨rfl,rfl⟩)
      |(go_at_call 83;refine(CP1.o _ HZ2.o).mono ?_;rintro e w4 ⟨rfl,hz4⟩))
     go_ret;exact⟨rfl,by rw[HTQ.o,HK.o];exact hz4⟩
end YtieknenhfeejiaaGreatDoor
end Go.Proofs
namespace Go.Proofs.YtieknenhfeejiaaGreatDoor
open _root_.Go.Proofs.Tryz
open Go.RowKit
namespace SC
theorem rest_size (s:ByteArray)(p:Nat)(h:p≤s.size):(s.extract p s.size).size=s.size-p:=by rw[ByteArray.size_extract];omega
theorem rest_list (s:ByteArray)(p:Nat)(h:p≤s.size):(s.extract p s.size).data.toList=s.data.toList.drop p:=by
 have:=SP.ext_list s p (s.size-p);rw[show p+(s.size-p)=s.size by omega]at this;rw[this,List.take_of_length_le (by rw[List.length_drop,←Lib.size_eq];omega)]
theorem rest_at (s:ByteArray)(p k:Nat)(h:p+k<s.size)(h':k<(s.extract p s.size).size):((s.extract p s.size)[k]'h').toNat=U.at' s (p+k):=by
 rw[U.at_eq s (p+k) h];exact congrArg UInt8.toNat (ByteArray.getElem_extract h')
theorem rest_two (s:ByteArray)(p:Nat)(h:p+1<s.size):((s.extract p s.size).extract 0 2).toList=[UInt8.ofNat (U.at' s p),UInt8.ofNat (U.at' s (p+1))]:=by
 have e:=SP.ext_list (s.extract p s.size) 0 2;rw[Nat.zero_add,List.drop_zero]at e;rw[ByteArray.toList_eq,e,rest_list s p (by omega),data_drop s p (by omega),data_drop s (p+1) h,U.at_eq s p (by omega),U.at_eq s (p+1) h];simp
theorem two_ne {l:List UInt8}{c d:Nat}{a b:UInt8}(h:l=[UInt8.ofNat c,UInt8.ofNat d])(hc:c<256)(hd:d<256){x y:Nat}(hn:¬ (c=x∧d=y))(ha:a.toNat=x)(hb:b.toNat=y):(l==[a,b])=false:=by
 rw[bf,h];intro e;simp only[List.cons.injEq,and_true]at e;apply hn;have e1:=congrArg UInt8.toNat e.1;have e2:=congrArg UInt8.toNat e.2;rw[UInt8.toNat_ofNat',Nat.mod_eq_of_lt (by omega)]at e1 e2;exact⟨e1.trans ha,e2.trans hb⟩
theorem rest_one (s:ByteArray)(p:Nat)(h:p<s.size)(h1:¬ p+1<s.size):U.at' s (p+1)=0:=at_out s (p+1) h1
end SC
theorem scop_any (z:Nat)(w0 w:World)(s:ByteArray)(p:Nat)(br sq:Bool)(T:List SC.Tk)(Z:SC.Zs z w0 w s p br sq T)(hp:p<s.size)(hs:s.size≤33554432) :
  Calls prog 85 #[.pointer (some ⟨z,0,none⟩)] w fun e w'=>SC.TokS z w0 s p T (SC.opR (U.at' s p) (U.at' s (p+1)) br sq) e w':=by
 have HZ:=hd Z;have c0:=Z.c0;have c1:=Z.c1;have CP1:=hd (fun (W:World) (b q:Bool) (hZ:SC.Zs z w0 W s p b q T)=>by have h:=scput_any z w0 W s p 1 6 b q T hZ (by omega) (by omega) hs;exact h);have CP2:=hd (fun (h2:p+1<s.size) (W:World) (b q:Bool) (hZ:SC.Zs z w0 W s p b q T)=>by have h:=scput_any z w0 W s p 2 6 b q T hZ (by omega) (by omega) hs;exact h);rw[show ((1:Nat):Int)=1 from rfl,show ((6:Nat):Int)=6 from rfl]at CP1;rw[show ((2:Nat):Int)=2 from rfl,show ((6:Nat):Int)=6 from rfl]at CP2;clear Z;have hps:(p:Int)≤(s.size:Int):=(by omega);have hrs:=SC.rest_size s p (by omega)
 have hr0:0<(s.extract p s.size).size:=(by omega);have HA0:=hd (SC.rest_at s p 0 (by omega) hr0);rw[Nat.add_zero]at HA0;have HT2:=hd (fun h=>SC.rest_two s p h);go_enter func85,ntmps85;go_wp2_with fail
 go_region
 obtain⟨w1,hw1⟩:∃w1,w1=w.drew:=⟨_,rfl⟩
 rw[←hw1];replace HZ:Hd (SC.Zs z w0 w1 s p br sq T):=hd (by rw[hw1];exact HZ.o.below (Below.refl _ _).drew);clear hw1 c0 c1;have b2:=HZ.o.c2;have b3:=HZ.o.c3;have f2:=HZ.o.fz 2;have f3:=HZ.o.fz 3;generalize hgr:s.extract p s.size=r at *;clear hgr;obtain⟨c,HC⟩:∃c,Hd (U.at' s p=c):=⟨_,hd rfl⟩
 obtain⟨d,HD⟩:∃d,Hd (U.at' s (p+1)=d):=⟨_,hd rfl⟩
 rw[HC.o]at HA0;rw[HC.o,HD.o]at HT2;have hr0I:(0:Int)<(r.size:Int):=(by omega);have hc256:c<256:=(by rw[←HA0.o];exact(r[0]'hr0).toNat_lt);by_cases h2:p+1<s.size
 ·have h2I:(1:Int)<(r.size:Int):=by omega
  have hT:=HT2.o h2;have hd256:d<256:=(by rw[←HD.o,U.at_eq s (p+1) h2];exact(s[p+1]'h2).toNat_lt);by_cases j0:c=61∧d=61
  ·obtain⟨rfl,rfl⟩:=j0
   have hT2:(r.extract 0 2).toList=[61,61]:=hT;have HR:Hd (SC.opR 61 61 br sq=.ok 6 2 br sq):=hd rfl;clear hT;go_wp2_with (go_at_call 83;refine(CP2.o h2 _ _ _ HZ.o).mono ?_;rintro e w4 ⟨rfl,hz4⟩)
   go_ret;exact(by rw[HC.o,HD.o,HR.o];exact⟨rfl,hz4⟩)
  ·have m0:((r.extract 0 2).toList==[61,61])=false:=SC.two_ne hT hc256 hd256 j0 (by decide) (by decide)
   by_cases j1:c=33∧d=61
   ·obtain⟨rfl,rfl⟩:=j1
    have hT2:(r.extract 0 2).toList=[33,61]:=hT;have HR:Hd (SC.opR 33 61 br sq=.ok 6 2 br sq):=hd rfl;clear hT;go_wp2_with (go_at_call 83;refine(CP2.o h2 _ _ _ HZ.o).mono ?_;rintro e w4 ⟨rfl,hz4⟩)
    go_ret;exact(by rw[HC.o,HD.o,HR.o];exact⟨rfl,hz4⟩)
   ·have m1:((r.extract 0 2).toList==[33,61])=false:=SC.two_ne hT hc256 hd256 j1 (by decide) (by decide)
    by_cases j2:c=61∧d=126
    ·obtain⟨rfl,rfl⟩:=j2
     have hT2:(r.extract 0 2).toList=[61,126]:=hT;have HR:Hd (SC.opR 61 126 br sq=.ok 6 2 br sq):=hd rfl;clear hT;go_wp2_with (go_at_call 83;refine(CP2.o h2 _ _ _ HZ.o).mono ?_;rintro e w4 ⟨rfl,hz4⟩)
     go_ret;exact(by rw[HC.o,HD.o,HR.o];exact⟨rfl,hz4⟩)
    ·have m2:((r.extract 0 2).toList==[61,126])=false:=SC.two_ne hT hc256 hd256 j2 (by decide) (by decide)
     by_cases j3:c=33∧d=126
     ·obtain⟨rfl,rfl⟩:=j3
      have hT2:(r.extract 0 2).toList=[33,126]:=hT;have HR:Hd (SC.opR 33 126 br sq=.ok 6 2 br sq):=hd rfl;clear hT;go_wp2_with (go_at_call 83;refine(CP2.o h2 _ _ _ HZ.o).mono ?_;rintro e w4 ⟨rfl,hz4⟩)
      go_ret;exact(by rw[HC.o,HD.o,HR.o];exact⟨rfl,hz4⟩)
     ·have m3:((r.extract 0 2).toList==[33,126])=false:=SC.two_ne hT hc256 hd256 j3 (by decide) (by decide)
      by_cases j4:c=60∧d=61
      ·obtain⟨rfl,rfl⟩:=j4
       have hT2:(r.extract 0 2).toList=[60,61]:=hT;have HR:Hd (SC.opR 60 61 br sq=.ok 6 2 br sq):=hd rfl;clear hT;go_wp2_with (go_at_call 83;refine(CP2.o h2 _ _ _ HZ.o).mono ?_;rintro e w4 ⟨rfl,hz4⟩)
       go_ret;exact(by rw[HC.o,HD.o,HR.o];exact⟨rfl,hz4⟩)
      ·have m4:((r.extract 0 2).toList==[60,61])=false:=SC.two_ne hT hc256 hd256 j4 (by decide) (by decide)
       by_cases j5:c=62∧d=61
       ·obtain⟨rfl,rfl⟩:=j5
        have hT2:(r.extract 0 2).toList=[62,61]:=hT;have HR:Hd (SC.opR 62 61 br sq=.ok 6 2 br sq):=hd rfl;clear hT;go_wp2_with (go_at_call 83;refine(CP2.o h2 _ _ _ HZ.o).mono ?_;rintro e w4 ⟨rfl,hz4⟩)
        go_ret;exact(by rw[HC.o,HD.o,HR.o];exact⟨rfl,hz4⟩)
       ·have m5:((r.extract 0 2).toList==[62,61])=false:=SC.two_ne hT hc256 hd256 j5 (by decide) (by decide)
        have HTW:Hd (SC.two c d=false):=hd (by unfold SC.two;rw[decide_eq_false_iff_not];omega);clear hT;by_cases k123:c=123
        ·subst k123
         have hA0:=HA0.o;have HR:Hd (SC.opR 123 d br sq=.ok 6 1 true sq):=hd (by unfold SC.opR;rw[if_neg (by rw[HTW.o];decide)];rfl);go_wp2_with (go_at_call 83;refine(CP1.o _ true _ (HZ.o.setB true)).mono ?_;rintro e w4 ⟨rfl,hz4⟩)
         go_ret;exact(by rw[HC.o,HD.o,HR.o];exact⟨rfl,hz4⟩)
        ·have l123:(((r[0]'hr0).toNat:Int)==123)=false:=by(rw[bf,HA0.o];omega)
         by_cases k125:c=125
         ·subst k125
          have hA0:=HA0.o;have HR:Hd (SC.opR 125 d br sq=.ok 6 1 false sq):=hd (by unfold SC.opR;rw[if_neg (by rw[HTW.o];decide)];rfl);go_wp2_with (go_at_call 83;refine(CP1.o _ false _ (HZ.o.setB false)).mono ?_;rintro e w4 ⟨rfl,hz4⟩)
          go_ret;exact(by rw[HC.o,HD.o,HR.o];exact⟨rfl,hz4⟩)
         ·have l125:(((r[0]'hr0).toNat:Int)==125)=false:=by(rw[bf,HA0.o];omega)
          by_cases k91:c=91
          ·subst k91
           have hA0:=HA0.o;have HR:Hd (SC.opR 91 d br sq=.ok 6 1 br true):=hd (by unfold SC.opR;rw[if_neg (by rw[HTW.o];decide)];rfl);go_wp2_with (go_at_call 83;refine(CP1.o _ _ true (HZ.o.setS true)).mono ?_;rintro e w4 ⟨rfl,hz4⟩)
           go_ret;exact(by rw[HC.o,HD.o,HR.o];exact⟨rfl,hz4⟩)
          ·have l91:(((r[0]'hr0).toNat:Int)==91)=false:=by(rw[bf,HA0.o];omega)
           by_cases k93:c=93
           ·subst k93
            have hA0:=HA0.o;have HR:Hd (SC.opR 93 d br sq=.ok 6 1 br false):=hd (by unfold SC.opR;rw[if_neg (by rw[HTW.o];decide)];rfl);go_wp2_with (go_at_call 83;refine(CP1.o _ _ false (HZ.o.setS false)).mono ?_;rintro e w4 ⟨rfl,hz4⟩)
            go_ret;exact(by rw[HC.o,HD.o,HR.o];exact⟨rfl,hz4⟩)
           ·have l93:(((r[0]'hr0).toNat:Int)==93)=false:=by(rw[bf,HA0.o];omega)
            by_cases k40:c=40
            ·subst k40
             have hA0:=HA0.o;have HR:Hd (SC.opR 40 d br sq=.ok 6 1 br sq):=hd (by unfold SC.opR;rw[if_neg (by rw[HTW.o];decide)];rfl);go_wp2_with (go_at_call 83;refine(CP1.o _ _ _ HZ.o).mono ?_;rintro e w4 ⟨rfl,hz4⟩)
             go_ret;exact(by rw[HC.o,HD.o,HR.o];exact⟨rfl,hz4⟩)
            ·have l40:(((r[0]'hr0).toNat:Int)==40)=false:=by(rw[bf,HA0.o];omega)
             by_cases k41:c=41
             ·subst k41
              have hA0:=HA0.o;have HR:Hd (SC.opR 41 d br sq=.ok 6 1 br sq):=hd (by unfold SC.opR;rw[if_neg (by rw[HTW.o];decide)];rfl);go_wp2_with (go_at_call 83;refine(CP1.o _ _ _ HZ.o).mono ?_;rintro e w4 ⟨rfl,hz4⟩)
              go_ret;exact(by rw[HC.o,HD.o,HR.o];exact⟨rfl,hz4⟩)
             ·have l41:(((r[0]'hr0).toNat:Int)==41)=false:=by(rw[bf,HA0.o];omega)
              by_cases k44:c=44
              ·subst k44
               have hA0:=HA0.o;have HR:Hd (SC.opR 44 d br sq=.ok 6 1 br sq):=hd (by unfold SC.opR;rw[if_neg (by rw[HTW.o];decide)];rfl);go_wp2_with (go_at_call 83;refine(CP1.o _ _ _ HZ.o).mono ?_;rintro e w4 ⟨rfl,hz4⟩)
               go_ret;exact(by rw[HC.o,HD.o,HR.o];exact⟨rfl,hz4⟩)
              ·have l44:(((r[0]'hr0).toNat:Int)==44)=false:=by(rw[bf,HA0.o];omega)
               by_cases k58:c=58
               ·subst k58
                have hA0:=HA0.o;have HR:Hd (SC.opR 58 d br sq=.ok 6 1 br sq):=hd (by unfold SC.opR;rw[if_neg (by rw[HTW.o];decide)];rfl);go_wp2_with (go_at_call 83;refine(CP1.o _ _ _ HZ.o).mono ?_;rintro e w4 ⟨rfl,hz4⟩)
                go_ret;exact(by rw[HC.o,HD.o,HR.o];exact⟨rfl,hz4⟩)
               ·have l58:(((r[0]'hr0).toNat:Int)==58)=false:=by(rw[bf,HA0.o];omega)
                by_cases k61:c=61
                ·subst k61
                 have hA0:=HA0.o;have HR:Hd (SC.opR 61 d br sq=.ok 6 1 br sq):=hd (by unfold SC.opR;rw[if_neg (by rw[HTW.o];decide)];rfl);go_wp2_with (go_at_call 83;refine(CP1.o _ _ _ HZ.o).mono ?_;rintro e w4 ⟨rfl,hz4⟩)
                 go_ret;exact(by rw[HC.o,HD.o,HR.o];exact⟨rfl,hz4⟩)
                ·have l61:(((r[0]'hr0).toNat:Int)==61)=false:=by(rw[bf,HA0.o];omega)
                 by_cases k60:c=60
                 ·subst k60
                  have hA0:=HA0.o;have HR:Hd (SC.opR 60 d br sq=.ok 6 1 br sq):=hd (by unfold SC.opR;rw[if_neg (by rw[HTW.o];decide)];rfl);go_wp2_with (go_at_call 83;refine(CP1.o _ _ _ HZ.o).mono ?_;rintro e w4 ⟨rfl,hz4⟩)
                  go_ret;exact(by rw[HC.o,HD.o,HR.o];exact⟨rfl,hz4⟩)
                 ·have l60:(((r[0]'hr0).toNat:Int)==60)=false:=by(rw[bf,HA0.o];omega)
                  by_cases k62:c=62
                  ·subst k62
                   have hA0:=HA0.o;have HR:Hd (SC.opR 62 d br sq=.ok 6 1 br sq):=hd (by unfold SC.opR;rw[if_neg (by rw[HTW.o];decide)];rfl);go_wp2_with (go_at_call 83;refine(CP1.o _ _ _ HZ.o).mono ?_;rintro e w4 ⟨rfl,hz4⟩)
                   go_ret;exact(by rw[HC.o,HD.o,HR.o];exact⟨rfl,hz4⟩)
                  ·have l62:(((r[0]'hr0).toNat:Int)==62)=false:=by(rw[bf,HA0.o];omega)
                   by_cases k43:c=43
                   ·subst k43
                    have hA0:=HA0.o;have HR:Hd (SC.opR 43 d br sq=.ok 6 1 br sq):=hd (by unfold SC.opR;rw[if_neg (by rw[HTW.o];decide)];rfl);go_wp2_with (go_at_call 83;refine(CP1.o _ _ _ HZ.o).mono ?_;rintro e w4 ⟨rfl,hz4⟩)
                    go_ret;exact(by rw[HC.o,HD.o,HR.o];exact⟨rfl,hz4⟩)
                   ·have l43:(((r[0]'hr0).toNat:Int)==43)=false:=by(rw[bf,HA0.o];omega)
                    by_cases k45:c=45
                    ·subst k45
                     have hA0:=HA0.o;have HR:Hd (SC.opR 45 d br sq=.ok 6 1 br sq):=hd (by unfold SC.opR;rw[if_neg (by rw[HTW.o];decide)];rfl);go_wp2_with (go_at_call 83;refine(CP1.o _ _ _ HZ.o).mono ?_;rintro e w4 ⟨rfl,hz4⟩)
                     go_ret;exact(by rw[HC.o,HD.o,HR.o];exact⟨rfl,hz4⟩)
                    ·have l45:(((r[0]'hr0).toNat:Int)==45)=false:=by(rw[bf,HA0.o];omega)
                     by_cases k42:c=42
                     ·subst k42
                      have hA0:=HA0.o;have HR:Hd (SC.opR 42 d br sq=.ok 6 1 br sq):=hd (by unfold SC.opR;rw[if_neg (by rw[HTW.o];decide)];rfl);go_wp2_with (go_at_call 83;refine(CP1.o _ _ _ HZ.o).mono ?_;rintro e w4 ⟨rfl,hz4⟩)
                      go_ret;exact(by rw[HC.o,HD.o,HR.o];exact⟨rfl,hz4⟩)
                     ·have l42:(((r[0]'hr0).toNat:Int)==42)=false:=by(rw[bf,HA0.o];omega)
                      by_cases k47:c=47
                      ·subst k47
                       have hA0:=HA0.o;have HR:Hd (SC.opR 47 d br sq=.ok 6 1 br sq):=hd (by unfold SC.opR;rw[if_neg (by rw[HTW.o];decide)];rfl);go_wp2_with (go_at_call 83;refine(CP1.o _ _ _ HZ.o).mono ?_;rintro e w4 ⟨rfl,hz4⟩)
                       go_ret;exact(by rw[HC.o,HD.o,HR.o];exact⟨rfl,hz4⟩)
                      ·have l47:(((r[0]'hr0).toNat:Int)==47)=false:=by(rw[bf,HA0.o];omega)
                       by_cases k37:c=37
                       ·subst k37
                        have hA0:=HA0.o;have HR:Hd (SC.opR 37 d br sq=.ok 6 1 br sq):=hd (by unfold SC.opR;rw[if_neg (by rw[HTW.o];decide)];rfl);go_wp2_with (go_at_call 83;refine(CP1.o _ _ _ HZ.o).mono ?_;rintro e w4 ⟨rfl,hz4⟩)
                        go_ret;exact(by rw[HC.o,HD.o,HR.o];exact⟨rfl,hz4⟩)
                       ·have l37:(((r[0]'hr0).toNat:Int)==37)=false:=by(rw[bf,HA0.o];omega)
                        by_cases k94:c=94
                        ·subst k94
                         have hA0:=HA0.o;have HR:Hd (SC.opR 94 d br sq=.ok 6 1 br sq):=hd (by unfold SC.opR;rw[if_neg (by rw[HTW.o];decide)];rfl);go_wp2_with (go_at_call 83;refine(CP1.o _ _ _ HZ.o).mono ?_;rintro e w4 ⟨rfl,hz4⟩)
                         go_ret;exact(by rw[HC.o,HD.o,HR.o];exact⟨rfl,hz4⟩)
                        ·have l94:(((r[0]'hr0).toNat:Int)==94)=false:=by(rw[bf,HA0.o];omega)
                         by_cases k64:c=64
                         ·subst k64
                          have hA0:=HA0.o;have HR:Hd (SC.opR 64 d br sq=.ok 6 1 br sq):=hd (by unfold SC.opR;rw[if_neg (by rw[HTW.o];decide)];rfl);go_wp2_with (go_at_call 83;refine(CP1.o _ _ _ HZ.o).mono ?_;rintro e w4 ⟨rfl,hz4⟩)
                          go_ret;exact(by rw[HC.o,HD.o,HR.o];exact⟨rfl,hz4⟩)
                         ·have l64:(((r[0]'hr0).toNat:Int)==64)=false:=by(rw[bf,HA0.o];omega)
                          have HR:Hd (SC.opR c d br sq=.bad 110):=hd (by unfold SC.opR;rw[if_neg (by rw[HTW.o];decide),if_neg k123,if_neg k125,if_neg k91,if_neg k93,if_neg (by unfold SC.single;rw[decide_eq_true_eq];omega)]);go_wp2;go_ret;exact(by rw[HC.o,HD.o,HR.o];exact⟨rfl,_,_,HZ.o⟩)
 ·have h2I:¬ (1:Int)<(r.size:Int):=by omega
  have HTW:Hd (SC.two c d=false):=hd (by rw[←HD.o,SC.rest_one s p hp h2];unfold SC.two;rw[decide_eq_false_iff_not];omega);by_cases k123:c=123
  ·subst k123
   have hA0:=HA0.o;have HR:Hd (SC.opR 123 d br sq=.ok 6 1 true sq):=hd (by unfold SC.opR;rw[if_neg (by rw[HTW.o];decide)];rfl);go_wp2_with (go_at_call 83;refine(CP1.o _ true _ (HZ.o.setB true)).mono ?_;rintro e w4 ⟨rfl,hz4⟩)
   go_ret;exact(by rw[HC.o,HD.o,HR.o];exact⟨rfl,hz4⟩)
  ·have l123:(((r[0]'hr0).toNat:Int)==123)=false:=by(rw[bf,HA0.o];omega)
   by_cases k125:c=125
   ·subst k125
    have hA0:=HA0.o;have HR:Hd (SC.opR 125 d br sq=.ok 6 1 false sq):=hd (by unfold SC.opR;rw[if_neg (by rw[HTW.o];decide)];rfl);go_wp2_with (go_at_call 83;refine(CP1.o _ false _ (HZ.o.setB false)).mono ?_;rintro e w4 ⟨rfl,hz4⟩)
    go_ret;exact(by rw[HC.o,HD.o,HR.o];exact⟨rfl,hz4⟩)
   ·have l125:(((r[0]'hr0).toNat:Int)==125)=false:=by(rw[bf,HA0.o];omega)
    by_cases k91:c=91
    ·subst k91
     have hA0:=HA0.o;have HR:Hd (SC.opR 91 d br sq=.ok 6 1 br true):=hd (by unfold SC.opR;rw[if_neg (by rw[HTW.o];decide)];rfl);go_wp2_with (go_at_call 83;refine(CP1.o _ _ true (HZ.o.setS true)).mono ?_;rintro e w4 ⟨rfl,hz4⟩)
     go_ret;exact(by rw[HC.o,HD.o,HR.o];exact⟨rfl,hz4⟩)
    ·have l91:(((r[0]'hr0).toNat:Int)==91)=false:=by(rw[bf,HA0.o];omega)
     by_cases k93:c=93
     ·subst k93
      have hA0:=HA0.o;have HR:Hd (SC.opR 93 d br sq=.ok 6 1 br false):=hd (by unfold SC.opR;rw[if_neg (by rw[HTW.o];decide)];rfl);go_wp2_with (go_at_call 83;refine(CP1.o _ _ false (HZ.o.setS false)).mono ?_;rintro e w4 ⟨rfl,hz4⟩)
      go_ret;exact(by rw[HC.o,HD.o,HR.o];exact⟨rfl,hz4⟩)
     ·have l93:(((r[0]'hr0).toNat:Int)==93)=false:=by(rw[bf,HA0.o];omega)
      by_cases k40:c=40
      ·subst k40
       have hA0:=HA0.o;have HR:Hd (SC.opR 40 d br sq=.ok 6 1 br sq):=hd (by unfold SC.opR;rw[if_neg (by rw[HTW.o];decide)];rfl);go_wp2_with (go_at_call 83;refine(CP1.o _ _ _ HZ.o).mono ?_;rintro e w4 ⟨rfl,hz4⟩)
       go_ret;exact(by rw[HC.o,HD.o,HR.o];exact⟨rfl,hz4⟩)
      ·have l40:(((r[0]'hr0).toNat:Int)==40)=false:=by(rw[bf,HA0.o];omega)
       by_cases k41:c=41
       ·subst k41
        have hA0:=HA0.o;have HR:Hd (SC.opR 41 d br sq=.ok 6 1 br sq):=hd (by unfold SC.opR;rw[if_neg (by rw[HTW.o];decide)];rfl);go_wp2_with (go_at_call 83;refine(CP1.o _ _ _ HZ.o).mono ?_;rintro e w4 ⟨rfl,hz4⟩)
        go_ret;exact(by rw[HC.o,HD.o,HR.o];exact⟨rfl,hz4⟩)
       ·have l41:(((r[0]'hr0).toNat:Int)==41)=false:=by(rw[bf,HA0.o];omega)
        by_cases k44:c=44
        ·subst k44
         have hA0:=HA0.o;have HR:Hd (SC.opR 44 d br sq=.ok 6 1 br sq):=hd (by unfold SC.opR;rw[if_neg (by rw[HTW.o];decide)];rfl);go_wp2_with (go_at_call 83;refine(CP1.o _ _ _ HZ.o).mono ?_;rintro e w4 ⟨rfl,hz4⟩)
         go_ret;exact(by rw[HC.o,HD.o,HR.o];exact⟨rfl,hz4⟩)
        ·have l44:(((r[0]'hr0).toNat:Int)==44)=false:=by(rw[bf,HA0.o];omega)
         by_cases k58:c=58
         ·subst k58
          have hA0:=HA0.o;have HR:Hd (SC.opR 58 d br sq=.ok 6 1 br sq):=hd (by unfold SC.opR;rw[if_neg (by rw[HTW.o];decide)];rfl);go_wp2_with (go_at_call 83;refine(CP1.o _ _ _ HZ.o).mono ?_;rintro e w4 ⟨rfl,hz4⟩)
          go_ret;exact(by rw[HC.o,HD.o,HR.o];exact⟨rfl,hz4⟩)
         ·have l58:(((r[0]'hr0).toNat:Int)==58)=false:=by(rw[bf,HA0.o];omega)
          by_cases k61:c=61
          ·subst k61
           have hA0:=HA0.o;have HR:Hd (SC.opR 61 d br sq=.ok 6 1 br sq):=hd (by unfold SC.opR;rw[if_neg (by rw[HTW.o];decide)];rfl);go_wp2_with (go_at_call 83;refine(CP1.o _ _ _ HZ.o).mono ?_;rintro e w4 ⟨rfl,hz4⟩)
           go_ret;exact(by rw[HC.o,HD.o,HR.o];exact⟨rfl,hz4⟩)
          ·have l61:(((r[0]'hr0).toNat:Int)==61)=false:=by(rw[bf,HA0.o];omega)
           by_cases k60:c=60
           ·subst k60
            have hA0:=HA0.o;have HR:Hd (SC.opR 60 d br sq=.ok 6 1 br sq):=hd (by unfold SC.opR;rw[if_neg (by rw[HTW.o];decide)];rfl);go_wp2_with (go_at_call 83;refine(CP1.o _ _ _ HZ.o).mono ?_;rintro e w4 ⟨rfl,hz4⟩)
            go_ret;exact(by rw[HC.o,HD.o,HR.o];exact⟨rfl,hz4⟩)
           ·have l60:(((r[0]'hr0).toNat:Int)==60)=false:=by(rw[bf,HA0.o];omega)
            by_cases k62:c=62
            ·subst k62
             have hA0:=HA0.o;have HR:Hd (SC.opR 62 d br sq=.ok 6 1 br sq):=hd (by unfold SC.opR;rw[if_neg (by rw[HTW.o];decide)];rfl);go_wp2_with (go_at_call 83;refine(CP1.o _ _ _ HZ.o).mono ?_;rintro e w4 ⟨rfl,hz4⟩)
             go_ret;exact(by rw[HC.o,HD.o,HR.o];exact⟨rfl,hz4⟩)
            ·have l62:(((r[0]'hr0).toNat:Int)==62)=false:=by(rw[bf,HA0.o];omega)
             by_cases k43:c=43
             ·subst k43
              have hA0:=HA0.o;have HR:Hd (SC.opR 43 d br sq=.ok 6 1 br sq):=hd (by unfold SC.opR;rw[if_neg (by rw[HTW.o];decide)];rfl);go_wp2_with (go_at_call 83;refine(CP1.o _ _ _ HZ.o).mono ?_;rintro e w4 ⟨rfl,hz4⟩)
              go_ret;exact(by rw[HC.o,HD.o,HR.o];exact⟨rfl,hz4⟩)
             ·have l43:(((r[0]'hr0).toNat:Int)==43)=false:=by(rw[bf,HA0.o];omega)
              by_cases k45:c=45
              ·subst k45
               have hA0:=HA0.o;have HR:Hd (SC.opR 45 d br sq=.ok 6 1 br sq):=hd (by unfold SC.opR;rw[if_neg (by rw[HTW.o];decide)];rfl);go_wp2_with (go_at_call 83;refine(CP1.o _ _ _ HZ.o).mono ?_;rintro e w4 ⟨rfl,hz4⟩)
               go_ret;exact(by rw[HC.o,HD.o,HR.o];exact⟨rfl,hz4⟩)
              ·have l45:(((r[0]'hr0).toNat:Int)==45)=false:=by(rw[bf,HA0.o];omega)
               by_cases k42:c=42
               ·subst k42
                have hA0:=HA0.o;have HR:Hd (SC.opR 42 d br sq=.ok 6 1 br sq):=hd (by unfold SC.opR;rw[if_neg (by rw[HTW.o];decide)];rfl);go_wp2_with (go_at_call 83;refine(CP1.o _ _ _ HZ.o).mono ?_;rintro e w4 ⟨rfl,hz4⟩)
                go_ret;exact(by rw[HC.o,HD.o,HR.o];exact⟨rfl,hz4⟩)
               ·have l42:(((r[0]'hr0).toNat:Int)==42)=false:=by(rw[bf,HA0.o];omega)
                by_cases k47:c=47
                ·subst k47
                 have hA0:=HA0.o;have HR:Hd (SC.opR 47 d br sq=.ok 6 1 br sq):=hd (by unfold SC.opR;rw[if_neg (by rw[HTW.o];decide)];rfl);go_wp2_with (go_at_call 83;refine(CP1.o _ _ _ HZ.o).mono ?_;rintro e w4 ⟨rfl,hz4⟩)
                 go_ret;exact(by rw[HC.o,HD.o,HR.o];exact⟨rfl,hz4⟩)
                ·have l47:(((r[0]'hr0).toNat:Int)==47)=false:=by(rw[bf,HA0.o];omega)
                 by_cases k37:c=37
                 ·subst k37
                  have hA0:=HA0.o;have HR:Hd (SC.opR 37 d br sq=.ok 6 1 br sq):=hd (by unfold SC.opR;rw[if_neg (by rw[HTW.o];decide)];rfl);go_wp2_with (go_at_call 83;refine(CP1.o _ _ _ HZ.o).mono ?_;rintro e w4 ⟨rfl,hz4⟩)
                  go_ret;exact(by rw[HC.o,HD.o,HR.o];exact⟨rfl,hz4⟩)
                 ·have l37:(((r[0]'hr0).toNat:Int)==37)=false:=by(rw[bf,HA0.o];omega)
                  by_cases k94:c=94
                  ·subst k94
                   have hA0:=HA0.o;have HR:Hd (SC.opR 94 d br sq=.ok 6 1 br sq):=hd (by unfold SC.opR;rw[if_neg (by rw[HTW.o];decide)];rfl);go_wp2_with (go_at_call 83;refine(CP1.o _ _ _ HZ.o).mono ?_;rintro e w4 ⟨rfl,hz4⟩)
                   go_ret;exact(by rw[HC.o,HD.o,HR.o];exact⟨rfl,hz4⟩)
                  ·have l94:(((r[0]'hr0).toNat:Int)==94)=false:=by(rw[bf,HA0.o];omega)
                   by_cases k64:c=64
                   ·subst k64
                    have hA0:=HA0.o;have HR:Hd (SC.opR 64 d br sq=.ok 6 1 br sq):=hd (by unfold SC.opR;rw[if_neg (by rw[HTW.o];decide)];rfl);go_wp2_with (go_at_call 83;refine(CP1.o _ _ _ HZ.o).mono ?_;rintro e w4 ⟨rfl,hz4⟩)
                    go_ret;exact(by rw[HC.o,HD.o,HR.o];exact⟨rfl,hz4⟩)
                   ·have l64:(((r[0]'hr0).toNat:Int)==64)=false:=by(rw[bf,HA0.o];omega)
                    have HR:Hd (SC.opR c d br sq=.bad 110):=hd (by unfold SC.opR;rw[if_neg (by rw[HTW.o];decide),if_neg k123,if_neg k125,if_neg k91,if_neg k93,if_neg (by unfold SC.single;rw[decide_eq_true_eq];omega)]);go_wp2;go_ret;exact(by rw[HC.o,HD.o,HR.o];exact⟨rfl,_,_,HZ.o⟩)
end Go.Proofs.YtieknenhfeejiaaGreatDoor
namespace Go.Proofs.YtieknenhfeejiaaGreatDoor
open _root_.Go.Proofs.Tryz
open Go.RowKit
namespace SC
theorem number_spanB {s:ByteArray}{p K P:Nat}{br sq:Bool}(hP:PN.pfx (s.data.toList.drop p)=P)(hK:(SP.M (s.data.toList.drop p) 0).1=K)(h:P<K)
  (hb:tail (U.at' s (p+K))=true∨SP.err ((s.data.toList.drop p).take K)≠0):number s p br sq=.bad 112:=by
 unfold number;rw[hP,hK,if_pos h,if_pos hb]
theorem number_spanG {s:ByteArray}{p K P:Nat}{br sq:Bool}(hP:PN.pfx (s.data.toList.drop p)=P)(hK:(SP.M (s.data.toList.drop p) 0).1=K)(h:P<K)
  (hb:¬ (tail (U.at' s (p+K))=true∨SP.err ((s.data.toList.drop p).take K)≠0)):number s p br sq=.ok 4 K br sq:=by
 unfold number;rw[hP,hK,if_pos h,if_neg hb]
theorem number_numB {s:ByteArray}{p K D:Nat}{br sq:Bool}(hP:PN.pfx (s.data.toList.drop p)=K)(hK:(SP.M (s.data.toList.drop p) 0).1=D)(h:¬ K<D)
  (hb:tail (U.at' s (p+K))=true∨numBad (s.extract p (p+K))):number s p br sq=.bad 112:=by
 unfold number;rw[hP,hK,if_neg h,if_pos hb]
theorem number_numG {s:ByteArray}{p K D:Nat}{br sq:Bool}(hP:PN.pfx (s.data.toList.drop p)=K)(hK:(SP.M (s.data.toList.drop p) 0).1=D)(h:¬ K<D)
  (hb:¬ (tail (U.at' s (p+K))=true∨numBad (s.extract p (p+K)))):number s p br sq=.ok 3 K br sq:=by
 unfold number;rw[hP,hK,if_neg h,if_neg hb]
theorem rest_cut (s:ByteArray)(p K:Nat)(h:p+K≤s.size):(s.extract p s.size).extract 0 K=s.extract p (p+K):=by
 rw[ByteArray.extract_extract];congr 1
 omega
theorem tok_pos {s:ByteArray}{p k K:Nat}{br sq b q:Bool}(h:number s p br sq=.ok k K b q):0<K:=by
 unfold number at h;split at h
 ·split at h
  ·cases h
  ·rename_i h1 _
   simp only[R.ok.injEq]at h;omega
 ·split at h
  ·cases h
  ·rename_i h2
   simp only[R.ok.injEq]at h;refine Nat.pos_of_ne_zero fun h0=>h2 (.inr ?_)
   rw[h.2.1,h0];exact numBad_nil (by simp)
theorem tail_no {s:ByteArray}{i:Nat}(h:¬ i<s.size):tail (U.at' s i)=false:=by rw[at_out s i h];decide
end SC
theorem read_val (t:ByteArray)(w:World)(N:Nm2 w)(hs:t.size≤1125899906842624):∃(b:Nat) (e:Int),RdOk t (rdTup b e)∧0≤e∧e≤21∧∀W:World,Nm2 W→Calls prog 120 #[.string t] W fun x w'=>x=.returned (rdTup b e)∧Below W.heap.size W w':=by
 obtain⟨e,w',fr,h,_⟩:=nread_any t w N hs [];obtain⟨_,v,hv,_⟩:=h;obtain⟨b,er,rfl,_,h0,h1⟩:=hv.shape;refine⟨b,er,hv,h0,h1,fun W NW=>(nread_any t W NW hs).mono ?_⟩;rintro x w'' ⟨hb,u,hu,rfl⟩;rw[hv.ext hu];exact⟨rfl,hb⟩
theorem scnumS_any (z:Nat)(w0 w:World)(s:ByteArray)(p K D:Nat)(br sq:Bool)(T:List SC.Tk)(Z:SC.Zs z w0 w s p br sq T)(N:Nm2 w)(hp:p<s.size)(hs:s.size≤33554432)
  (hP:PN.pfx (s.data.toList.drop p)=D)(hK:(SP.M (s.data.toList.drop p) 0).1=K)(hlt:D<K) :
  Calls prog 84 #[.pointer (some ⟨z,0,none⟩)] w fun e w'=>SC.TokS z w0 s p T (SC.number s p br sq) e w':=by
 have HZ:=hd Z;have HN2:=hd N;have c0:=Z.c0;have c1:=Z.c1;have HNB:=hd (fun h=>SC.number_spanB (br:=br) (sq:=sq) hP hK hlt h);have HNG:=hd (fun h=>SC.number_spanG (br:=br) (sq:=sq) hP hK hlt h);have hps:(p:Int)≤(s.size:Int):=(by omega);have hrs:=SC.rest_size s p (by omega);have HRL:=hd (SC.rest_list s p (by omega));have hKr:K≤(s.extract p s.size).size:=by
  have h1:=SP.M_le (s.data.toList.drop p) 0;have h2:=SC.pfx_le (s.data.toList.drop p);rw[List.length_drop,←Lib.size_eq]at h1 h2;omega
 have hDr:D≤(s.extract p s.size).size:=by
  have h1:=SP.M_le (s.data.toList.drop p) 0;have h2:=SC.pfx_le (s.data.toList.drop p);rw[List.length_drop,←Lib.size_eq]at h1 h2;omega
 have HCUT:=hd (SC.rest_cut s p K (by omega));have HAT:=hd (fun (h:p+K<s.size) h'=>SC.rest_at s p K h h');have HNO:=hd (fun (h:¬ p+K<s.size)=>SC.tail_no h);have C1:=hd (fun W:World=>by have h:=prefix_any (s.extract p s.size) W (by omega);rw[HRL.o,hP]at h;exact h);have C2:=hd (fun W:World=>by have h:=spprefix_any (s.extract p s.size) W (by omega);rw[HRL.o,hK]at h;exact h);have CPT:=hd (fun (h0:0<K) (W:World) (hZ:SC.Zs z w0 W s p br sq T)=>by have h:=scput_any z w0 W s p K 4 br sq T hZ h0 (by omega) hs;exact h);rw[show ((4:Nat):Int)=4 from rfl]at CPT
 have C3:=hd (fun W:World=>spparse_any ((s.extract p s.size).extract 0 K) W (by rw[HCUT.o,ByteArray.size_extract];omega));have HEL:Hd (((s.extract p s.size).extract 0 K).data.toList=(s.data.toList.drop p).take K):=hd (by rw[HCUT.o];exact SP.ext_list s p K);obtain⟨v,er,HVE,hve0,hve1⟩:∃(v er:Int),Hd (SP.val ((s.extract p s.size).extract 0 K).data.toList=v∧SP.err ((s.extract p s.size).extract 0 K).data.toList=er)∧-1≤er∧er≤200:=⟨_,_,hd ⟨rfl,rfl⟩,by unfold SP.err;split;omega;split;omega;split<;>omega,by unfold SP.err;split;omega;split;omega;split<;>omega⟩
 rw[HVE.o.1,HVE.o.2]at C3;have HER:Hd (SP.err ((s.data.toList.drop p).take K)=er):=hd (by rw[←HEL.o];exact HVE.o.2);clear Z N hP hK;go_enter func84,ntmps84;go_wp2_with fail
 go_region
 obtain⟨w1,hw1⟩:∃w1,w1=w.drew:=⟨_,rfl⟩
 rw[←hw1];replace HZ:Hd (SC.Zs z w0 w1 s p br sq T):=hd (by rw[hw1];exact HZ.o.below (Below.refl _ _).drew);replace HN2:Hd (Nm2 w1):=hd (by rw[hw1];exact HN2.o.below (Below.refl _ _).drew);clear hw1 c0 c1;generalize hgr:s.extract p s.size=r at *;clear hgr HRL HEL HVE;have hKI:(K:Int)≤(r.size:Int):=(by omega);have hltI:(D:Int)<(K:Int):=(by omega);by_cases hKs:K<r.size
 ·have hKsI:(K:Int)<(r.size:Int):=by omega
  have HA:=hd (HAT.o (by omega) hKs);have hb256:(r[K]'hKs).toNat<256:=(r[K]'hKs).toNat_lt;obtain⟨b,hb⟩:∃b,(r[K]'hKs).toNat=b:=⟨_,rfl⟩
  rw[hb]at HA hb256;clear HNO HAT;cases hl1:L.ltr b with
  |true=>
   have HTL:Hd (SC.tail (U.at' s (p+K))=true):=hd (by rw[←HA.o];unfold SC.tail;rw[hl1];rfl);have HR:Hd (SC.number s p br sq=.bad 112):=hd (HNB.o (.inl HTL.o));go_wp2_with (first
    |(go_at_call 117;refine(C1.o _).mono ?_;rintro e1 w2 ⟨rfl,rfl⟩)
    |(go_at_call 118;refine(C2.o _).mono ?_;rintro e2 w3 ⟨rfl,hb3⟩;have HZ3:=hd (HZ.o.below hb3);have HN3:=hd (HN2.o.below hb3))
    |(go_at_call 76;refine(letter_any b _ hb256).mono ?_;rintro e3 w4 ⟨rfl,rfl⟩;rw[hl1])
    |(go_at_call 68;refine(ldigit_any b _ hb256).mono ?_;rintro e4 w5 ⟨rfl,rfl⟩;rw[hl2]))
   go_ret;exact(by rw[HR.o];exact⟨rfl,_,_,HZ3.o⟩)
  |false=>
   cases hl2:L.dgt b with
   |true=>
    have HTL:Hd (SC.tail (U.at' s (p+K))=true):=hd (by rw[←HA.o];unfold SC.tail;rw[hl1,hl2];rfl);have HR:Hd (SC.number s p br sq=.bad 112):=hd (HNB.o (.inl HTL.o));go_wp2_with (first
     |(go_at_call 117;refine(C1.o _).mono ?_;rintro e1 w2 ⟨rfl,rfl⟩)
     |(go_at_call 118;refine(C2.o _).mono ?_;rintro e2 w3 ⟨rfl,hb3⟩;have HZ3:=hd (HZ.o.below hb3);have HN3:=hd (HN2.o.below hb3))
     |(go_at_call 76;refine(letter_any b _ hb256).mono ?_;rintro e3 w4 ⟨rfl,rfl⟩;rw[hl1])
     |(go_at_call 68;refine(ldigit_any b _ hb256).mono ?_;rintro e4 w5 ⟨rfl,rfl⟩;rw[hl2]))
    go_ret;exact(by rw[HR.o];exact⟨rfl,_,_,HZ3.o⟩)
   |false=>
    by_cases hl3:b=46
    ·have HTL:Hd (SC.tail (U.at' s (p+K))=true):=hd (by rw[←HA.o];unfold SC.tail;rw[hl1,hl2,hl3];rfl)
     have hl4:((b:Int)==46)=true:=(by rw[hl3];rfl);clear hl3;have HR:Hd (SC.number s p br sq=.bad 112):=hd (HNB.o (.inl HTL.o));go_wp2_with (first
      |(go_at_call 117;refine(C1.o _).mono ?_;rintro e1 w2 ⟨rfl,rfl⟩)
      |(go_at_call 118;refine(C2.o _).mono ?_;rintro e2 w3 ⟨rfl,hb3⟩;have HZ3:=hd (HZ.o.below hb3);have HN3:=hd (HN2.o.below hb3))
      |(go_at_call 76;refine(letter_any b _ hb256).mono ?_;rintro e3 w4 ⟨rfl,rfl⟩;rw[hl1])
      |(go_at_call 68;refine(ldigit_any b _ hb256).mono ?_;rintro e4 w5 ⟨rfl,rfl⟩;rw[hl2]))
     go_ret;exact(by rw[HR.o];exact⟨rfl,_,_,HZ3.o⟩)
    ·have HTL:Hd (SC.tail (U.at' s (p+K))=false):=hd (by rw[←HA.o];unfold SC.tail;rw[hl1,hl2];simp;omega)
     have hl4:((b:Int)==46)=false:=by(rw[bf];omega)
     by_cases he:er=0
     ·subst he
      have HR:Hd (SC.number s p br sq=.ok 4 K br sq):=hd (HNG.o (by rintro (h|h);(rw[HTL.o]at h;cases h);(rw[HER.o]at h;exact h rfl)));have h0K:=(SC.tok_pos HR.o)
      go_wp2_with (first
       |(go_at_call 117;refine(C1.o _).mono ?_;rintro e1 w2 ⟨rfl,rfl⟩)
       |(go_at_call 118;refine(C2.o _).mono ?_;rintro e2 w3 ⟨rfl,hb3⟩;have HZ3:=hd (HZ.o.below hb3);have HN3:=hd (HN2.o.below hb3))
       |(go_at_call 76;refine(letter_any b _ hb256).mono ?_;rintro e3 w4 ⟨rfl,rfl⟩;rw[hl1])
       |(go_at_call 68;refine(ldigit_any b _ hb256).mono ?_;rintro e4 w5 ⟨rfl,rfl⟩;rw[hl2])
       |(go_at_call 119;refine(C3.o _).mono ?_;rintro e5 w6 ⟨rfl,hb6⟩;have HZ6:=hd (HZ3.o.below hb6))
       |(go_at_call 83;refine(CPT.o h0K _ HZ6.o).mono ?_;rintro e6 w7 ⟨rfl,hz7⟩))
      go_ret;exact(by rw[HR.o];exact⟨rfl,hz7⟩)
     ·have heI:(er==0)=false:=by(rw[bf];exact he)
      have heN:(er !=0)=true:=by(rw[bne_iff_ne];exact he)
      have HR:Hd (SC.number s p br sq=.bad 112):=hd (HNB.o (.inr (by rw[HER.o];exact he)));go_wp2_with (first
       |(go_at_call 117;refine(C1.o _).mono ?_;rintro e1 w2 ⟨rfl,rfl⟩)
       |(go_at_call 118;refine(C2.o _).mono ?_;rintro e2 w3 ⟨rfl,hb3⟩;have HZ3:=hd (HZ.o.below hb3);have HN3:=hd (HN2.o.below hb3))
       |(go_at_call 76;refine(letter_any b _ hb256).mono ?_;rintro e3 w4 ⟨rfl,rfl⟩;rw[hl1])
       |(go_at_call 68;refine(ldigit_any b _ hb256).mono ?_;rintro e4 w5 ⟨rfl,rfl⟩;rw[hl2])
       |(go_at_call 119;refine(C3.o _).mono ?_;rintro e5 w6 ⟨rfl,hb6⟩;have HZ6:=hd (HZ3.o.below hb6)))
      go_ret;exact(by rw[HR.o];exact⟨rfl,_,_,HZ6.o⟩)
 ·have hKsI:¬ (K:Int)<(r.size:Int):=by omega
  have HTL:=hd (HNO.o (by omega));clear HNO HAT;by_cases he:er=0
  ·subst he
   have HR:Hd (SC.number s p br sq=.ok 4 K br sq):=hd (HNG.o (by rintro (h|h);(rw[HTL.o]at h;cases h);(rw[HER.o]at h;exact h rfl)));have h0K:=(SC.tok_pos HR.o)
   go_wp2_with (first
    |(go_at_call 117;refine(C1.o _).mono ?_;rintro e1 w2 ⟨rfl,rfl⟩)
    |(go_at_call 118;refine(C2.o _).mono ?_;rintro e2 w3 ⟨rfl,hb3⟩;have HZ3:=hd (HZ.o.below hb3);have HN3:=hd (HN2.o.below hb3))
    |(go_at_call 119;refine(C3.o _).mono ?_;rintro e5 w6 ⟨rfl,hb6⟩;have HZ6:=hd (HZ3.o.below hb6))
    |(go_at_call 83;refine(CPT.o h0K _ HZ6.o).mono ?_;rintro e6 w7 ⟨rfl,hz7⟩))
   go_ret;exact(by rw[HR.o];exact⟨rfl,hz7⟩)
  ·have heI:(er==0)=false:=by(rw[bf];exact he)
   have heN:(er !=0)=true:=by(rw[bne_iff_ne];exact he)
   have HR:Hd (SC.number s p br sq=.bad 112):=hd (HNB.o (.inr (by rw[HER.o];exact he)));go_wp2_with (first
    |(go_at_call 117;refine(C1.o _).mono ?_;rintro e1 w2 ⟨rfl,rfl⟩)
    |(go_at_call 118;refine(C2.o _).mono ?_;rintro e2 w3 ⟨rfl,hb3⟩;have HZ3:=hd (HZ.o.below hb3);have HN3:=hd (HN2.o.below hb3))
    |(go_at_call 119;refine(C3.o _).mono ?_;rintro e5 w6 ⟨rfl,hb6⟩;have HZ6:=hd (HZ3.o.below hb6)))
   go_ret;exact(by rw[HR.o];exact⟨rfl,_,_,HZ6.o⟩)
theorem scnumN_any (z:Nat)(w0 w:World)(s:ByteArray)(p K D:Nat)(br sq:Bool)(T:List SC.Tk)(Z:SC.Zs z w0 w s p br sq T)(N:Nm2 w)(hp:p<s.size)(hs:s.size≤33554432)
  (hP:PN.pfx (s.data.toList.drop p)=K)(hK:(SP.M (s.data.toList.drop p) 0).1=D)(hlt:¬ K<D) :
  Calls prog 84 #[.pointer (some ⟨z,0,none⟩)] w fun e w'=>SC.TokS z w0 s p T (SC.number s p br sq) e w':=by
 have HZ:=hd Z;have HN2:=hd N;have c0:=Z.c0;have c1:=Z.c1;have HNB:=hd (fun h=>SC.number_numB (br:=br) (sq:=sq) hP hK hlt h);have HNG:=hd (fun h=>SC.number_numG (br:=br) (sq:=sq) hP hK hlt h);have hps:(p:Int)≤(s.size:Int):=(by omega);have hrs:=SC.rest_size s p (by omega);have HRL:=hd (SC.rest_list s p (by omega));have hKr:K≤(s.extract p s.size).size:=by
  have h1:=SP.M_le (s.data.toList.drop p) 0;have h2:=SC.pfx_le (s.data.toList.drop p);rw[List.length_drop,←Lib.size_eq]at h1 h2;omega
 have hDr:D≤(s.extract p s.size).size:=by
  have h1:=SP.M_le (s.data.toList.drop p) 0;have h2:=SC.pfx_le (s.data.toList.drop p);rw[List.length_drop,←Lib.size_eq]at h1 h2;omega
 have HCUT:=hd (SC.rest_cut s p K (by omega));have HAT:=hd (fun (h:p+K<s.size) h'=>SC.rest_at s p K h h');have HNO:=hd (fun (h:¬ p+K<s.size)=>SC.tail_no h);have C1:=hd (fun W:World=>by have h:=prefix_any (s.extract p s.size) W (by omega);rw[HRL.o,hP]at h;exact h);have C2:=hd (fun W:World=>by have h:=spprefix_any (s.extract p s.size) W (by omega);rw[HRL.o,hK]at h;exact h);have CPT:=hd (fun (h0:0<K) (W:World) (hZ:SC.Zs z w0 W s p br sq T)=>by have h:=scput_any z w0 W s p K 3 br sq T hZ h0 (by omega) hs;exact h);rw[show ((3:Nat):Int)=3 from rfl]at CPT
 obtain⟨vb,er,hRd,hve0,hve1,C3a⟩:=read_val ((s.extract p s.size).extract 0 K) w N (by rw[HCUT.o,ByteArray.size_extract];omega);have C3:=hd C3a;have HER:Hd (SC.numBad (s.extract p (p+K))↔er≠0):=hd (by rw[←HCUT.o];exact SC.numBad_iff hRd);unfold rdTup at C3;clear C3a hRd;clear Z N hP hK;go_enter func84,ntmps84;go_wp2_with fail
 go_region
 obtain⟨w1,hw1⟩:∃w1,w1=w.drew:=⟨_,rfl⟩
 rw[←hw1];replace HZ:Hd (SC.Zs z w0 w1 s p br sq T):=hd (by rw[hw1];exact HZ.o.below (Below.refl _ _).drew);replace HN2:Hd (Nm2 w1):=hd (by rw[hw1];exact HN2.o.below (Below.refl _ _).drew);clear hw1 c0 c1;generalize hgr:s.extract p s.size=r at *;clear hgr HRL;have hKI:(K:Int)≤(r.size:Int):=(by omega);have hltI:(D:Int)≤(K:Int):=(by omega);by_cases hKs:K<r.size
 ·have hKsI:(K:Int)<(r.size:Int):=by omega
  have HA:=hd (HAT.o (by omega) hKs);have hb256:(r[K]'hKs).toNat<256:=(r[K]'hKs).toNat_lt;obtain⟨b,hb⟩:∃b,(r[K]'hKs).toNat=b:=⟨_,rfl⟩
  rw[hb]at HA hb256;clear HNO HAT;cases hl1:L.ltr b with
  |true=>
   have HTL:Hd (SC.tail (U.at' s (p+K))=true):=hd (by rw[←HA.o];unfold SC.tail;rw[hl1];rfl);have HR:Hd (SC.number s p br sq=.bad 112):=hd (HNB.o (.inl HTL.o));go_wp2_with (first
    |(go_at_call 117;refine(C1.o _).mono ?_;rintro e1 w2 ⟨rfl,rfl⟩)
    |(go_at_call 118;refine(C2.o _).mono ?_;rintro e2 w3 ⟨rfl,hb3⟩;have HZ3:=hd (HZ.o.below hb3);have HN3:=hd (HN2.o.below hb3))
    |(go_at_call 76;refine(letter_any b _ hb256).mono ?_;rintro e3 w4 ⟨rfl,rfl⟩;rw[hl1])
    |(go_at_call 68;refine(ldigit_any b _ hb256).mono ?_;rintro e4 w5 ⟨rfl,rfl⟩;rw[hl2]))
   go_ret;exact(by rw[HR.o];exact⟨rfl,_,_,HZ3.o⟩)
  |false=>
   cases hl2:L.dgt b with
   |true=>
    have HTL:Hd (SC.tail (U.at' s (p+K))=true):=hd (by rw[←HA.o];unfold SC.tail;rw[hl1,hl2];rfl);have HR:Hd (SC.number s p br sq=.bad 112):=hd (HNB.o (.inl HTL.o));go_wp2_with (first
     |(go_at_call 117;refine(C1.o _).mono ?_;rintro e1 w2 ⟨rfl,rfl⟩)
     |(go_at_call 118;refine(C2.o _).mono ?_;rintro e2 w3 ⟨rfl,hb3⟩;have HZ3:=hd (HZ.o.below hb3);have HN3:=hd (HN2.o.below hb3))
     |(go_at_call 76;refine(letter_any b _ hb256).mono ?_;rintro e3 w4 ⟨rfl,rfl⟩;rw[hl1])
     |(go_at_call 68;refine(ldigit_any b _ hb256).mono ?_;rintro e4 w5 ⟨rfl,rfl⟩;rw[hl2]))
    go_ret;exact(by rw[HR.o];exact⟨rfl,_,_,HZ3.o⟩)
   |false=>
    by_cases hl3:b=46
    ·have HTL:Hd (SC.tail (U.at' s (p+K))=true):=hd (by rw[←HA.o];unfold SC.tail;rw[hl1,hl2,hl3];rfl)
     have hl4:((b:Int)==46)=true:=(by rw[hl3];rfl);clear hl3;have HR:Hd (SC.number s p br sq=.bad 112):=hd (HNB.o (.inl HTL.o));go_wp2_with (first
      |(go_at_call 117;refine(C1.o _).mono ?_;rintro e1 w2 ⟨rfl,rfl⟩)
      |(go_at_call 118;refine(C2.o _).mono ?_;rintro e2 w3 ⟨rfl,hb3⟩;have HZ3:=hd (HZ.o.below hb3);have HN3:=hd (HN2.o.below hb3))
      |(go_at_call 76;refine(letter_any b _ hb256).mono ?_;rintro e3 w4 ⟨rfl,rfl⟩;rw[hl1])
      |(go_at_call 68;refine(ldigit_any b _ hb256).mono ?_;rintro e4 w5 ⟨rfl,rfl⟩;rw[hl2]))
     go_ret;exact(by rw[HR.o];exact⟨rfl,_,_,HZ3.o⟩)
    ·have HTL:Hd (SC.tail (U.at' s (p+K))=false):=hd (by rw[←HA.o];unfold SC.tail;rw[hl1,hl2];simp;omega)
     have hl4:((b:Int)==46)=false:=by(rw[bf];omega)
     by_cases he:er=0
     ·subst he
      have HR:Hd (SC.number s p br sq=.ok 3 K br sq):=hd (HNG.o (by rintro (h|h);(rw[HTL.o]at h;cases h);(exact(HER.o.1 h) rfl)));have h0K:=(SC.tok_pos HR.o)
      go_wp2_with (first
       |(go_at_call 117;refine(C1.o _).mono ?_;rintro e1 w2 ⟨rfl,rfl⟩)
       |(go_at_call 118;refine(C2.o _).mono ?_;rintro e2 w3 ⟨rfl,hb3⟩;have HZ3:=hd (HZ.o.below hb3);have HN3:=hd (HN2.o.below hb3))
       |(go_at_call 76;refine(letter_any b _ hb256).mono ?_;rintro e3 w4 ⟨rfl,rfl⟩;rw[hl1])
       |(go_at_call 68;refine(ldigit_any b _ hb256).mono ?_;rintro e4 w5 ⟨rfl,rfl⟩;rw[hl2])
       |(go_at_call 120;refine(C3.o _ HN3.o).mono ?_;rintro e5 w6 ⟨rfl,hb6⟩;have HZ6:=hd (HZ3.o.below hb6))
       |(go_at_call 83;refine(CPT.o h0K _ HZ6.o).mono ?_;rintro e6 w7 ⟨rfl,hz7⟩))
      go_ret;exact(by rw[HR.o];exact⟨rfl,hz7⟩)
     ·have heI:(er==0)=false:=by(rw[bf];exact he)
      have heN:(er !=0)=true:=by(rw[bne_iff_ne];exact he)
      have HR:Hd (SC.number s p br sq=.bad 112):=hd (HNB.o (.inr (HER.o.2 he)));go_wp2_with (first
       |(go_at_call 117;refine(C1.o _).mono ?_;rintro e1 w2 ⟨rfl,rfl⟩)
       |(go_at_call 118;refine(C2.o _).mono ?_;rintro e2 w3 ⟨rfl,hb3⟩;have HZ3:=hd (HZ.o.below hb3);have HN3:=hd (HN2.o.below hb3))
       |(go_at_call 76;refine(letter_any b _ hb256).mono ?_;rintro e3 w4 ⟨rfl,rfl⟩;rw[hl1])
       |(go_at_call 68;refine(ldigit_any b _ hb256).mono ?_;rintro e4 w5 ⟨rfl,rfl⟩;rw[hl2])
       |(go_at_call 120;refine(C3.o _ HN3.o).mono ?_;rintro e5 w6 ⟨rfl,hb6⟩;have HZ6:=hd (HZ3.o.below hb6)))
      go_ret;exact(by rw[HR.o];exact⟨rfl,_,_,HZ6.o⟩)
 ·have hKsI:¬ (K:Int)<(r.size:Int):=by omega
  have HTL:=hd (HNO.o (by omega));clear HNO HAT;by_cases he:er=0
  ·subst he
   have HR:Hd (SC.number s p br sq=.ok 3 K br sq):=hd (HNG.o (by rintro (h|h);(rw[HTL.o]at h;cases h);(exact(HER.o.1 h) rfl)));have h0K:=(SC.tok_pos HR.o)
   go_wp2_with (first
    |(go_at_call 117;refine(C1.o _).mono ?_;rintro e1 w2 ⟨rfl,rfl⟩)
    |(go_at_call 118;refine(C2.o _).mono ?_;rintro e2 w3 ⟨rfl,hb3⟩;have HZ3:=hd (HZ.o.below hb3);have HN3:=hd (HN2.o.below hb3))
    |(go_at_call 120;refine(C3.o _ HN3.o).mono ?_;rintro e5 w6 ⟨rfl,hb6⟩;have HZ6:=hd (HZ3.o.below hb6))
    |(go_at_call 83;refine(CPT.o h0K _ HZ6.o).mono ?_;rintro e6 w7 ⟨rfl,hz7⟩))
   go_ret;exact(by rw[HR.o];exact⟨rfl,hz7⟩)
  ·have heI:(er==0)=false:=by(rw[bf];exact he)
   have heN:(er !=0)=true:=by(rw[bne_iff_ne];exact he)
   have HR:Hd (SC.number s p br sq=.bad 112):=hd (HNB.o (.inr (HER.o.2 he)));go_wp2_with (first
    |(go_at_call 117;refine(C1.o _).mono ?_;rintro e1 w2 ⟨rfl,rfl⟩)
    |(go_at_call 118;refine(C2.o _).mono ?_;rintro e2 w3 ⟨rfl,hb3⟩;have HZ3:=hd (HZ.o.below hb3);have HN3:=hd (HN2.o.below hb3))
    |(go_at_call 120;refine(C3.o _ HN3.o).mono ?_;rintro e5 w6 ⟨rfl,hb6⟩;have HZ6:=hd (HZ3.o.below hb6)))
   go_ret;exact(by rw[HR.o];exact⟨rfl,_,_,HZ6.o⟩)
theorem scnum_any (z:Nat)(w0 w:World)(s:ByteArray)(p:Nat)(br sq:Bool)(T:List SC.Tk)(Z:SC.Zs z w0 w s p br sq T)(N:Nm2 w)(hp:p<s.size)(hs:s.size≤33554432) :
  Calls prog 84 #[.pointer (some ⟨z,0,none⟩)] w fun e w'=>SC.TokS z w0 s p T (SC.number s p br sq) e w':=by
 by_cases h:PN.pfx (s.data.toList.drop p)<(SP.M (s.data.toList.drop p) 0).1
 ·exact scnumS_any z w0 w s p _ _ br sq T Z N hp hs rfl rfl h
 ·exact scnumN_any z w0 w s p _ _ br sq T Z N hp hs rfl rfl h
namespace SC
theorem tok_name' {s:ByteArray}{p:Nat}{br sq:Bool}(h:nameB (U.at' s p) br sq=true):tok s p br sq=nameR (s.data.toList.drop p) br sq:=by unfold tok;rw[if_pos h]
theorem tok_num' {s:ByteArray}{p:Nat}{br sq:Bool}(h:nameB (U.at' s p) br sq=false)(h2:numB (U.at' s p) (U.at' s (p+1))=true):tok s p br sq=number s p br sq:=by
 unfold tok;rw[if_neg (by rw[h];decide),if_pos h2]
theorem tok_lit' {s:ByteArray}{p:Nat}{br sq:Bool}(h:nameB (U.at' s p) br sq=false)(h2:numB (U.at' s p) (U.at' s (p+1))=false)(h3:quoB (U.at' s p)=true):tok s p br sq=litK s p br sq:=by
 unfold tok;rw[if_neg (by rw[h];decide),if_neg (by rw[h2];decide),if_pos h3]
theorem tok_op' {s:ByteArray}{p:Nat}{br sq:Bool}(h:nameB (U.at' s p) br sq=false)(h2:numB (U.at' s p) (U.at' s (p+1))=false)(h3:quoB (U.at' s p)=false):tok s p br sq=opR (U.at' s p) (U.at' s (p+1)) br sq:=by
 unfold tok;rw[if_neg (by rw[h];decide),if_neg (by rw[h2];decide),if_neg (by rw[h3];decide)]
theorem nlen_pos {b:Bool}{s:ByteArray}{p:Nat}(hp:p<s.size)(h:L.ltr (U.at' s p)=true∨(b=true∧U.at' s p=58)):0<L.nlen b (s.data.toList.drop p)∧p+L.nlen b (s.data.toList.drop p)≤s.size:=by
 obtain⟨c,r,hd,hc,hr⟩:=at_drop s p hp;have h1:=L.nlen_le b (s.data.toList.drop p);rw[List.length_drop,←Lib.size_eq]at h1;refine⟨?_,by omega⟩;rw[hd];have:L.nok b c=true:=by
  unfold L.nok;rw[hc];rcases h with h|⟨rfl,h⟩
  ·rw[h];rfl
  ·rw[h];decide
 rw[L.nlen_yes this];omega
theorem colon_name {s:ByteArray}{p:Nat}(hp:p<s.size)(h:U.at' s p=58):L.nlen true (s.data.toList.drop p)=1+L.nlen true (s.data.toList.drop (p+1))∧nameR (s.data.toList.drop p) false false=.ok 2 (1+L.nlen true (s.data.toList.drop (p+1))) false false:=by
 obtain⟨c,r,hd,hc,hr⟩:=at_drop s p hp;have hn:L.nok true c=true:=(by unfold L.nok;rw[hc,h];decide);have e:L.nlen true (s.data.toList.drop p)=1+L.nlen true (s.data.toList.drop (p+1)):=(by rw[hd,L.nlen_yes hn,hr];omega);refine⟨e,?_⟩;unfold nameR;have e2:(!false && !false)=true:=rfl;rw[e2,e];have e3:nameK false ((s.data.toList.drop p).take (1+L.nlen true (s.data.toList.drop (p+1))))=2:=by
  unfold nameK;rw[if_pos];rw[hd,Nat.add_comm,List.take_succ_cons,List.any_cons,hc,h];rfl
 rw[e3]
theorem lit_facts {s:ByteArray}{p:Nat}(hp:p<s.size)(hq:U.at' s p=34∨U.at' s p=39∨U.at' s p=96)(h:(U.literal s p).2=0):∃e:Nat,(U.literal s p).1=(e:Int)∧p<e∧e≤s.size:=by
 rw[U.literal_in s p hp hq]at h ⊢;cases hl:U.lit s (U.at' s p) (p+1) with
 |none=>rw[hl]at h;exact absurd h (by decide)
 |some e=>
  have:=U.lit_gt s (U.at' s p) _ (p+1) e rfl hl;exact⟨e,rfl,by omega,by omega⟩
end SC
theorem SC.TokS.ret {z:Nat}{w0:World}{s:ByteArray}{p:Nat}{T:List SC.Tk}{r:SC.R}{e:Ending}{w':World}(h:SC.TokS z w0 s p T r e w'):∃x:Int,e=.returned (.int .i64 x)∧SC.TokS z w0 s p T r (.returned (.int .i64 x)) w':=by
 cases r with
 |ok k n b q=>obtain⟨rfl,h⟩:=h;exact⟨0,rfl,rfl,h⟩
 |bad er=>obtain⟨rfl,h⟩:=h;exact⟨er,rfl,rfl,h⟩
theorem sctok_any (z:Nat)(w0 w:World)(s:ByteArray)(p:Nat)(br sq:Bool)(T:List SC.Tk)(Z:SC.Zs z w0 w s p br sq T)(N:Nm2 w)(hp:p<s.size)(hs:s.size≤33554432) :
  Calls prog 50 #[.pointer (some ⟨z,0,none⟩)] w fun e w'=>SC.TokS z w0 s p T (SC.tok s p br sq) e w':=by
 have HZ:=hd Z;have HN2:=hd N;have c0:=Z.c0;have c1:=Z.c1;have HP:=hd hp;have HS:=hd hs;have hps:(p:Int)≤(s.size:Int):=(by omega);have hrs:=SC.rest_size s p (by omega);have hr0:0<(s.extract p s.size).size:=(by omega);have HRL:=hd (SC.rest_list s p (by omega));have HA0:=hd (SC.rest_at s p 0 (by omega) hr0);rw[Nat.add_zero]at HA0;have HA1:=hd (fun (h:p+1<s.size) h'=>SC.rest_at s p 1 h h');have CN:=hd (fun (b:Bool) (W:World)=>by have h:=nameEnd_any (s.extract p s.size) 0 b W (by omega) (by omega);rw[HRL.o,List.drop_zero,Nat.zero_add]at h;exact h)
 have CN1:=hd (fun (W:World)=>by have h:=nameEnd_any (s.extract p s.size) 1 true W (by omega) (by omega);rw[HRL.o,List.drop_drop]at h;exact h);rw[show ((0:Nat):Int)=0 from rfl]at CN;rw[show ((1:Nat):Int)=1 from rfl]at CN1;have CLT:=hd (fun (W:World)=>lit_any s p W (by omega));clear Z N;go_enter func50,ntmps50;go_wp2_with fail
 go_region
 obtain⟨w1,hw1⟩:∃w1,w1=w.drew:=⟨_,rfl⟩
 rw[←hw1];replace HZ:Hd (SC.Zs z w0 w1 s p br sq T):=hd (by rw[hw1];exact HZ.o.below (Below.refl _ _).drew);replace HN2:Hd (Nm2 w1):=hd (by rw[hw1];exact HN2.o.below (Below.refl _ _).drew);clear hw1 c0 c1;have b0:=HZ.o.c0;have b1:=HZ.o.c1;have b2:=HZ.o.c2;have b3:=HZ.o.c3;generalize hgr:s.extract p s.size=r at *;clear hgr HRL;have hr0I:(0:Int)<(r.size:Int):=(by omega);obtain⟨c,HC⟩:∃c,Hd (U.at' s p=c):=⟨_,hd rfl⟩
 obtain⟨d,HD⟩:∃d,Hd (U.at' s (p+1)=d):=⟨_,hd rfl⟩
 rw[HC.o]at HA0;rw[HD.o]at HA1;have hc:=HA0.o;have hc256:c<256:=(by rw[←hc];exact(r[0]'hr0).toNat_lt);have HNB:Hd (SC.nameB (U.at' s p) br sq=(L.ltr c ||(c==58 && (!br && !sq)))):=hd (by rw[HC.o];rfl);have HNU:Hd (SC.numB (U.at' s p) (U.at' s (p+1))=(L.dgt c ||(c==46 && L.dgt d))):=hd (by rw[HC.o,HD.o];rfl);have HQU:Hd (SC.quoB (U.at' s p)=(c==34 ||c==39 ||c==96)):=hd (by rw[HC.o];rfl);cases hl1:L.ltr c with
 |true=>
  cases br with
  |true=>
   obtain⟨n,Hn⟩:∃n,Hd (L.nlen (!true && !sq) (s.data.toList.drop p)=n):=⟨_,hd rfl⟩
   obtain⟨hn0,hn1⟩:=SC.nlen_pos (b:=(!true && !sq)) HP.o (.inl (by rw[HC.o];exact hl1));rw[Hn.o]at hn0 hn1;have CN2:=hd (fun W:World=>by have h:=CN.o (!true && !sq) W;rw[Hn.o]at h;exact h);have HR:Hd (SC.tok s p true sq=.ok (SC.nameK true ((s.data.toList.drop p).take n)) n true sq):=hd (by rw[SC.tok_name' (by rw[HNB.o,hl1];rfl)];unfold SC.nameR;rw[Hn.o]);have CNM:=hd (scname_any z w0 w1 s p n true sq T HZ.o hn0 hn1 HS.o);clear HNB HNU HQU;go_wp2_with (first
    |(go_at_call 76;refine(letter_any c _ hc256).mono ?_;rintro e1 w2 ⟨rfl,rfl⟩;rw[hl1])
    |(go_at_call 69;refine(CN2.o _).mono ?_;rintro e1 w2 ⟨rfl,rfl⟩)
    |(go_at_call 82;refine CNM.o.mono ?_;rintro e3 w3 ⟨rfl,hz3⟩))
   go_ret;exact(by rw[HR.o];exact⟨rfl,hz3⟩)
  |false=>
   obtain⟨n,Hn⟩:∃n,Hd (L.nlen (!false && !sq) (s.data.toList.drop p)=n):=⟨_,hd rfl⟩
   obtain⟨hn0,hn1⟩:=SC.nlen_pos (b:=(!false && !sq)) HP.o (.inl (by rw[HC.o];exact hl1));rw[Hn.o]at hn0 hn1;have CN2:=hd (fun W:World=>by have h:=CN.o (!false && !sq) W;rw[Hn.o]at h;exact h);have HR:Hd (SC.tok s p false sq=.ok (SC.nameK false ((s.data.toList.drop p).take n)) n false sq):=hd (by rw[SC.tok_name' (by rw[HNB.o,hl1];rfl)];unfold SC.nameR;rw[Hn.o]);have CNM:=hd (scname_any z w0 w1 s p n false sq T HZ.o hn0 hn1 HS.o);clear HNB HNU HQU;go_wp2_with (first
    |(go_at_call 76;refine(letter_any c _ hc256).mono ?_;rintro e1 w2 ⟨rfl,rfl⟩;rw[hl1])
    |(go_at_call 69;refine(CN2.o _).mono ?_;rintro e1 w2 ⟨rfl,rfl⟩)
    |(go_at_call 82;refine CNM.o.mono ?_;rintro e3 w3 ⟨rfl,hz3⟩))
   go_ret;exact(by rw[HR.o];exact⟨rfl,hz3⟩)
 |false=>
  by_cases k58:c=58
  ·have t58:((c:Int)==58)=true:=by rw[k58];rfl
   have hl2:L.dgt c=false:=(by rw[k58];decide);have t46:((c:Int)==46)=false:=(by rw[k58];rfl);have t34:((c:Int)==34)=false:=(by rw[k58];rfl);have t39:((c:Int)==39)=false:=(by rw[k58];rfl);have t96:((c:Int)==96)=false:=(by rw[k58];rfl);have HNUF:Hd (SC.numB (U.at' s p) (U.at' s (p+1))=false):=hd (by rw[HNU.o,hl2,k58];rfl);have HQUF:Hd (SC.quoB (U.at' s p)=false):=hd (by rw[HQU.o,k58];rfl);cases br with
   |true=>
    have HR:Hd (SC.tok s p true sq=SC.opR (U.at' s p) (U.at' s (p+1)) true sq):=hd (SC.tok_op' (by rw[HNB.o,hl1];simp) HNUF.o HQUF.o);have COP:=hd (scop_any z w0 w1 s p true sq T HZ.o HP.o HS.o);clear HNB HNU HQU;clear k58;go_wp2_with (first
     |(go_at_call 76;refine(letter_any c _ hc256).mono ?_;rintro e1 w2 ⟨rfl,rfl⟩;rw[hl1])
     |(go_at_call 68;refine(ldigit_any c _ hc256).mono ?_;rintro e1 w2 ⟨rfl,rfl⟩;rw[hl2])
     |(go_at_call 85;refine COP.o.mono ?_;rintro e3 w3 hz3;obtain⟨x3,rfl,hz4⟩:=SC.TokS.ret hz3;have HZ3:=hd hz4;clear hz3 hz4))
    go_ret;exact(by rw[HR.o];exact HZ3.o)
   |false=>
    cases sq with
    |true=>
     have HR:Hd (SC.tok s p false true=SC.opR (U.at' s p) (U.at' s (p+1)) false true):=hd (SC.tok_op' (by rw[HNB.o,hl1];simp) HNUF.o HQUF.o);have COP:=hd (scop_any z w0 w1 s p false true T HZ.o HP.o HS.o);clear HNB HNU HQU;clear k58;go_wp2_with (first
      |(go_at_call 76;refine(letter_any c _ hc256).mono ?_;rintro e1 w2 ⟨rfl,rfl⟩;rw[hl1])
      |(go_at_call 68;refine(ldigit_any c _ hc256).mono ?_;rintro e1 w2 ⟨rfl,rfl⟩;rw[hl2])
      |(go_at_call 85;refine COP.o.mono ?_;rintro e3 w3 hz3;obtain⟨x3,rfl,hz4⟩:=SC.TokS.ret hz3;have HZ3:=hd hz4;clear hz3 hz4))
     go_ret;exact(by rw[HR.o];exact HZ3.o)
    |false=>
     obtain⟨hcn,hcr⟩:=SC.colon_name HP.o (HC.o.trans k58);obtain⟨hn0,hn1⟩:=SC.nlen_pos (b:=true) HP.o (.inr ⟨rfl,HC.o.trans k58⟩);rw[hcn]at hn0 hn1;obtain⟨n,Hn⟩:∃n,Hd (1+L.nlen true (s.data.toList.drop (p+1))=n):=⟨_,hd rfl⟩
     rw[Hn.o]at CN1 hn0 hn1 hcr;have HR:Hd (SC.tok s p false false=.ok 2 n false false):=hd (by rw[SC.tok_name' (by rw[HNB.o,k58];rfl)];exact hcr);have CPT:=hd (by have h:=scput_any z w0 w1 s p n 2 false false T HZ.o hn0 hn1 HS.o;rw[show ((2:Nat):Int)=2 from rfl]at h;exact h);clear HNB HNU HQU hcn hcr k58;go_wp2_with (first
      |(go_at_call 76;refine(letter_any c _ hc256).mono ?_;rintro e1 w2 ⟨rfl,rfl⟩;rw[hl1])
      |(go_at_call 69;refine(CN1.o _).mono ?_;rintro e1 w2 ⟨rfl,rfl⟩)
      |(go_at_call 83;refine CPT.o.mono ?_;rintro e3 w3 ⟨rfl,hz3⟩))
     go_ret;exact(by rw[HR.o];exact⟨rfl,hz3⟩)
  ·have t58:((c:Int)==58)=false:=by(rw[bf];omega)
   have HNBF:Hd (SC.nameB (U.at' s p) br sq=false):=hd (by rw[HNB.o,hl1];simp[k58]);cases hl2:L.dgt c with
   |true=>
    cases br with
    |true=>
     have HR:Hd (SC.tok s p true sq=SC.number s p true sq):=hd (SC.tok_num' HNBF.o (by rw[HNU.o,hl2];rfl));have CNU:=hd (scnum_any z w0 w1 s p true sq T HZ.o HN2.o HP.o HS.o);clear HNB HNU HQU;go_wp2_with (first
      |(go_at_call 76;refine(letter_any c _ hc256).mono ?_;rintro e1 w2 ⟨rfl,rfl⟩;rw[hl1])
      |(go_at_call 68;refine(ldigit_any c _ hc256).mono ?_;rintro e1 w2 ⟨rfl,rfl⟩;rw[hl2])
      |(go_at_call 84;refine CNU.o.mono ?_;rintro e3 w3 hz3;obtain⟨x3,rfl,hz4⟩:=SC.TokS.ret hz3;have HZ3:=hd hz4;clear hz3 hz4))
     go_ret;exact(by rw[HR.o];exact HZ3.o)
    |false=>
     have HR:Hd (SC.tok s p false sq=SC.number s p false sq):=hd (SC.tok_num' HNBF.o (by rw[HNU.o,hl2];rfl));have CNU:=hd (scnum_any z w0 w1 s p false sq T HZ.o HN2.o HP.o HS.o);clear HNB HNU HQU;go_wp2_with (first
      |(go_at_call 76;refine(letter_any c _ hc256).mono ?_;rintro e1 w2 ⟨rfl,rfl⟩;rw[hl1])
      |(go_at_call 68;refine(ldigit_any c _ hc256).mono ?_;rintro e1 w2 ⟨rfl,rfl⟩;rw[hl2])
      |(go_at_call 84;refine CNU.o.mono ?_;rintro e3 w3 hz3;obtain⟨x3,rfl,hz4⟩:=SC.TokS.ret hz3;have HZ3:=hd hz4;clear hz3 hz4))
     go_ret;exact(by rw[HR.o];exact HZ3.o)
   |false=>
    by_cases k46:c=46
    ·have t46:((c:Int)==46)=true:=by rw[k46];rfl
     have t34:((c:Int)==34)=false:=(by rw[k46];rfl);have t39:((c:Int)==39)=false:=(by rw[k46];rfl);have t96:((c:Int)==96)=false:=(by rw[k46];rfl);have HQUF:Hd (SC.quoB (U.at' s p)=false):=hd (by rw[HQU.o,k46];rfl);by_cases h2:p+1<s.size
     ·have h2I:(1:Int)<(r.size:Int):=by omega
      have hr1:1<r.size:=(by omega);have hd1:=HA1.o h2 hr1;have hd256:d<256:=(by rw[←hd1];exact(r[1]'hr1).toNat_lt);cases hl3:L.dgt d with
      |true=>
       cases br with
       |true=>
        have HR:Hd (SC.tok s p true sq=SC.number s p true sq):=hd (SC.tok_num' HNBF.o (by rw[HNU.o,hl2,hl3,k46];rfl));have CNU:=hd (scnum_any z w0 w1 s p true sq T HZ.o HN2.o HP.o HS.o);have HDC:=hd (fun W:World=>by have h:=ldigit_any c W hc256;rw[hl2]at h;exact h);have HDD:=hd (fun W:World=>by have h:=ldigit_any d W hd256;rw[hl3]at h;exact h);clear HNB HNU HQU k46;go_wp2_with (first
         |(go_at_call 76;refine(letter_any c _ hc256).mono ?_;rintro e1 w2 ⟨rfl,rfl⟩;rw[hl1])
         |(go_at_call 68;with_reducible refine(HDC.o _).mono ?_;rintro e1 w2 ⟨rfl,rfl⟩)
         |(go_at_call 68;refine(HDD.o _).mono ?_;rintro e1 w2 ⟨rfl,rfl⟩)
         |(go_at_call 84;refine CNU.o.mono ?_;rintro e3 w3 hz3;obtain⟨x3,rfl,hz4⟩:=SC.TokS.ret hz3;have HZ3:=hd hz4;clear hz3 hz4))
        go_ret;exact(by rw[HR.o];exact HZ3.o)
       |false=>
        have HR:Hd (SC.tok s p false sq=SC.number s p false sq):=hd (SC.tok_num' HNBF.o (by rw[HNU.o,hl2,hl3,k46];rfl));have CNU:=hd (scnum_any z w0 w1 s p false sq T HZ.o HN2.o HP.o HS.o);have HDC:=hd (fun W:World=>by have h:=ldigit_any c W hc256;rw[hl2]at h;exact h);have HDD:=hd (fun W:World=>by have h:=ldigit_any d W hd256;rw[hl3]at h;exact h);clear HNB HNU HQU k46;go_wp2_with (first
         |(go_at_call 76;refine(letter_any c _ hc256).mono ?_;rintro e1 w2 ⟨rfl,rfl⟩;rw[hl1])
         |(go_at_call 68;with_reducible refine(HDC.o _).mono ?_;rintro e1 w2 ⟨rfl,rfl⟩)
         |(go_at_call 68;refine(HDD.o _).mono ?_;rintro e1 w2 ⟨rfl,rfl⟩)
         |(go_at_call 84;refine CNU.o.mono ?_;rintro e3 w3 hz3;obtain⟨x3,rfl,hz4⟩:=SC.TokS.ret hz3;have HZ3:=hd hz4;clear hz3 hz4))
        go_ret;exact(by rw[HR.o];exact HZ3.o)
      |false=>
       have HNUF:Hd (SC.numB (U.at' s p) (U.at' s (p+1))=false):=hd (by rw[HNU.o,hl2,hl3,k46];rfl);cases br with
       |true=>
        have HR:Hd (SC.tok s p true sq=SC.opR (U.at' s p) (U.at' s (p+1)) true sq):=hd (SC.tok_op' HNBF.o HNUF.o HQUF.o);have COP:=hd (scop_any z w0 w1 s p true sq T HZ.o HP.o HS.o);have HDC:=hd (fun W:World=>by have h:=ldigit_any c W hc256;rw[hl2]at h;exact h);have HDD:=hd (fun W:World=>by have h:=ldigit_any d W hd256;rw[hl3]at h;exact h);clear HNB HNU HQU k46;go_wp2_with (first
         |(go_at_call 76;refine(letter_any c _ hc256).mono ?_;rintro e1 w2 ⟨rfl,rfl⟩;rw[hl1])
         |(go_at_call 68;with_reducible refine(HDC.o _).mono ?_;rintro e1 w2 ⟨rfl,rfl⟩)
         |(go_at_call 68;refine(HDD.o _).mono ?_;rintro e1 w2 ⟨rfl,rfl⟩)
         |(go_at_call 85;refine COP.o.mono ?_;rintro e3 w3 hz3;obtain⟨x3,rfl,hz4⟩:=SC.TokS.ret hz3;have HZ3:=hd hz4;clear hz3 hz4))
        go_ret;exact(by rw[HR.o];exact HZ3.o)
       |false=>
        have HR:Hd (SC.tok s p false sq=SC.opR (U.at' s p) (U.at' s (p+1)) false sq):=hd (SC.tok_op' HNBF.o HNUF.o HQUF.o);have COP:=hd (scop_any z w0 w1 s p false sq T HZ.o HP.o HS.o);have HDC:=hd (fun W:World=>by have h:=ldigit_any c W hc256;rw[hl2]at h;exact h);have HDD:=hd (fun W:World=>by have h:=ldigit_any d W hd256;rw[hl3]at h;exact h);clear HNB HNU HQU k46;go_wp2_with (first
         |(go_at_call 76;refine(letter_any c _ hc256).mono ?_;rintro e1 w2 ⟨rfl,rfl⟩;rw[hl1])
         |(go_at_call 68;with_reducible refine(HDC.o _).mono ?_;rintro e1 w2 ⟨rfl,rfl⟩)
         |(go_at_call 68;refine(HDD.o _).mono ?_;rintro e1 w2 ⟨rfl,rfl⟩)
         |(go_at_call 85;refine COP.o.mono ?_;rintro e3 w3 hz3;obtain⟨x3,rfl,hz4⟩:=SC.TokS.ret hz3;have HZ3:=hd hz4;clear hz3 hz4))
        go_ret;exact(by rw[HR.o];exact HZ3.o)
     ·have h2I:¬ (1:Int)<(r.size:Int):=by omega
      have HNUF:Hd (SC.numB (U.at' s p) (U.at' s (p+1))=false):=hd (by rw[HNU.o,←HD.o,SC.rest_one s p HP.o h2,hl2];simp[L.dgt]);cases br with
      |true=>
       have HR:Hd (SC.tok s p true sq=SC.opR (U.at' s p) (U.at' s (p+1)) true sq):=hd (SC.tok_op' HNBF.o HNUF.o HQUF.o);have COP:=hd (scop_any z w0 w1 s p true sq T HZ.o HP.o HS.o);clear HNB HNU HQU k46;go_wp2_with (first
        |(go_at_call 76;refine(letter_any c _ hc256).mono ?_;rintro e1 w2 ⟨rfl,rfl⟩;rw[hl1])
        |(go_at_call 68;refine(ldigit_any c _ hc256).mono ?_;rintro e1 w2 ⟨rfl,rfl⟩;rw[hl2])
        |(go_at_call 85;refine COP.o.mono ?_;rintro e3 w3 hz3;obtain⟨x3,rfl,hz4⟩:=SC.TokS.ret hz3;have HZ3:=hd hz4;clear hz3 hz4))
       go_ret;exact(by rw[HR.o];exact HZ3.o)
      |false=>
       have HR:Hd (SC.tok s p false sq=SC.opR (U.at' s p) (U.at' s (p+1)) false sq):=hd (SC.tok_op' HNBF.o HNUF.o HQUF.o);have COP:=hd (scop_any z w0 w1 s p false sq T HZ.o HP.o HS.o);clear HNB HNU HQU k46;go_wp2_with (first
        |(go_at_call 76;refine(letter_any c _ hc256).mono ?_;rintro e1 w2 ⟨rfl,rfl⟩;rw[hl1])
        |(go_at_call 68;refine(ldigit_any c _ hc256).mono ?_;rintro e1 w2 ⟨rfl,rfl⟩;rw[hl2])
        |(go_at_call 85;refine COP.o.mono ?_;rintro e3 w3 hz3;obtain⟨x3,rfl,hz4⟩:=SC.TokS.ret hz3;have HZ3:=hd hz4;clear hz3 hz4))
       go_ret;exact(by rw[HR.o];exact HZ3.o)
    ·have t46:((c:Int)==46)=false:=by(rw[bf];omega)
     have HNUF:Hd (SC.numB (U.at' s p) (U.at' s (p+1))=false):=hd (by rw[HNU.o,hl2];simp[k46]);by_cases hq:c=34∨c=39∨c=96
     ·have HQUT:Hd (SC.quoB (U.at' s p)=true):=hd (by rw[HQU.o];rcases hq with h|h|h<;>rw[h]<;>rfl)
      have HTK:Hd (SC.tok s p br sq=SC.litK s p br sq):=hd (SC.tok_lit' HNBF.o HNUF.o HQUT.o);have HLF:=hd (fun h=>SC.lit_facts HP.o (by rw[HC.o];exact hq) h);obtain⟨le,ler,HLE⟩:∃le ler,Hd (U.literal s p=(le,ler)):=⟨_,_,hd rfl⟩
      rw[HLE.o]at CLT HLF;rcases hq with hk|hk|hk
      ·have t34:((c:Int)==34)=true:=by rw[hk];rfl
       have t39:((c:Int)==39)=false:=(by rw[hk];rfl);have t96:((c:Int)==96)=false:=(by rw[hk];rfl);clear hk HNB HNU HQU HNUF HQUT;by_cases he:ler=0
       ·subst he
        obtain⟨en,hen,hen1,hen2⟩:=HLF.o rfl;have hen0:le=(en:Int):=hen;subst hen0;have henp:(p:Int)≤(en:Int):=(by omega);have hens:(en:Int)≤(s.size:Int):=(by omega);have CU:=hd (fun W:World=>unquote_any (s.extract p en) W (by rw[ByteArray.size_extract];have:=HS.o;omega));obtain⟨uq,ue,HUE⟩:∃uq ue,Hd (U.unquote (s.extract p en)=(uq,ue)):=⟨_,_,hd rfl⟩
        rw[HUE.o]at CU;unfold strR at CU;simp only at CU;have CPT:=hd (fun (W:World) (hZ:SC.Zs z w0 W s p br sq T)=>by have h:=scput_any z w0 W s p (en-p) 5 br sq T hZ (by omega) (by omega) HS.o;rw[show ((5:Nat):Int)=5 from rfl,show (((en-p:Nat):Nat):Int)=(en:Int)-(p:Int) by omega]at h;exact h);by_cases hu:ue=0
        ·subst hu
         have HR:Hd (SC.tok s p br sq=.ok 5 (en-p) br sq):=hd (by rw[HTK.o];unfold SC.litK;rw[HLE.o,Int.toNat_natCast,HUE.o,if_neg (by simp)]);cases br with
         |true=>
          go_wp2_with (first
           |(go_at_call 76;refine(letter_any c _ hc256).mono ?_;rintro e1 w2 ⟨rfl,rfl⟩;rw[hl1])
           |(go_at_call 68;refine(ldigit_any c _ hc256).mono ?_;rintro e1 w2 ⟨rfl,rfl⟩;rw[hl2]))
          refine wp_region_below (by kernel_rfl) (by kernel_rfl) ?_;have f0:=fun q:BelW w1=>q.cell b0
          have f1:=fun q:BelW w1=>q.cell b1
          have S0:=hd (fun q:BelW w1=>CLT.o q.w)
          repeat (go_big_quiet_step (first|(go_at_call 53;exact Calls.below_same (S0.o _))))
          refine wpQuiet_nil ?_;rintro w3 ⟨⟨_,hb3⟩,rfl⟩;have HZ3:=hd (HZ.o.below hb3);clear f0 f1 S0 hb3;have d0:=HZ3.o.c0;have d1:=HZ3.o.c1;clear b0 b1 b2 b3;go_wp2_with fail
          refine wp_region_below (by kernel_rfl) (by kernel_rfl) ?_;have f0:=fun q:BelW w3=>q.cell d0
          have f1:=fun q:BelW w3=>q.cell d1
          have S0:=hd (fun q:BelW w3=>CU.o q.w)
          repeat (go_big_quiet_step (first|(go_at_call 23;exact Calls.below_of (S0.o _))))
          refine wpQuiet_nil ?_;rintro w4 ⟨⟨_,hb4⟩,rfl⟩;have HZ4:=hd (HZ3.o.below hb4);have b14:=HZ4.o.c1;clear f0 f1 S0 hb4;go_wp2_with (first
           |(go_at_call 83;refine(CPT.o _ HZ4.o).mono ?_;rintro e5 w5 ⟨rfl,hz5⟩))
          go_ret;exact(by rw[HR.o];exact⟨rfl,hz5⟩)
         |false=>
          go_wp2_with (first
           |(go_at_call 76;refine(letter_any c _ hc256).mono ?_;rintro e1 w2 ⟨rfl,rfl⟩;rw[hl1])
           |(go_at_call 68;refine(ldigit_any c _ hc256).mono ?_;rintro e1 w2 ⟨rfl,rfl⟩;rw[hl2]))
          refine wp_region_below (by kernel_rfl) (by kernel_rfl) ?_;have f0:=fun q:BelW w1=>q.cell b0
          have f1:=fun q:BelW w1=>q.cell b1
          have S0:=hd (fun q:BelW w1=>CLT.o q.w)
          repeat (go_big_quiet_step (first|(go_at_call 53;exact Calls.below_same (S0.o _))))
          refine wpQuiet_nil ?_;rintro w3 ⟨⟨_,hb3⟩,rfl⟩;have HZ3:=hd (HZ.o.below hb3);clear f0 f1 S0 hb3;have d0:=HZ3.o.c0;have d1:=HZ3.o.c1;clear b0 b1 b2 b3;go_wp2_with fail
          refine wp_region_below (by kernel_rfl) (by kernel_rfl) ?_;have f0:=fun q:BelW w3=>q.cell d0
          have f1:=fun q:BelW w3=>q.cell d1
          have S0:=hd (fun q:BelW w3=>CU.o q.w)
          repeat (go_big_quiet_step (first|(go_at_call 23;exact Calls.below_of (S0.o _))))
          refine wpQuiet_nil ?_;rintro w4 ⟨⟨_,hb4⟩,rfl⟩;have HZ4:=hd (HZ3.o.below hb4);have b14:=HZ4.o.c1;clear f0 f1 S0 hb4;go_wp2_with (first
           |(go_at_call 83;refine(CPT.o _ HZ4.o).mono ?_;rintro e5 w5 ⟨rfl,hz5⟩))
          go_ret;exact(by rw[HR.o];exact⟨rfl,hz5⟩)
        ·have huN:(ue !=0)=true:=by(rw[bne_iff_ne];exact hu)
         have HR:Hd (SC.tok s p br sq=.bad 111):=hd (by rw[HTK.o];unfold SC.litK;rw[HLE.o,Int.toNat_natCast,HUE.o,if_pos (.inr hu)]);cases br with
         |true=>
          go_wp2_with (first
           |(go_at_call 76;refine(letter_any c _ hc256).mono ?_;rintro e1 w2 ⟨rfl,rfl⟩;rw[hl1])
           |(go_at_call 68;refine(ldigit_any c _ hc256).mono ?_;rintro e1 w2 ⟨rfl,rfl⟩;rw[hl2]))
          refine wp_region_below (by kernel_rfl) (by kernel_rfl) ?_;have f0:=fun q:BelW w1=>q.cell b0
          have f1:=fun q:BelW w1=>q.cell b1
          have S0:=hd (fun q:BelW w1=>CLT.o q.w)
          repeat (go_big_quiet_step (first|(go_at_call 53;exact Calls.below_same (S0.o _))))
          refine wpQuiet_nil ?_;rintro w3 ⟨⟨_,hb3⟩,rfl⟩;have HZ3:=hd (HZ.o.below hb3);clear f0 f1 S0 hb3;have d0:=HZ3.o.c0;have d1:=HZ3.o.c1;clear b0 b1 b2 b3;go_wp2_with fail
          refine wp_region_below (by kernel_rfl) (by kernel_rfl) ?_;have f0:=fun q:BelW w3=>q.cell d0
          have f1:=fun q:BelW w3=>q.cell d1
          have S0:=hd (fun q:BelW w3=>CU.o q.w)
          repeat (go_big_quiet_step (first|(go_at_call 23;exact Calls.below_of (S0.o _))))
          refine wpQuiet_nil ?_;rintro w4 ⟨⟨_,hb4⟩,rfl⟩;have HZ4:=hd (HZ3.o.below hb4);have b14:=HZ4.o.c1;clear f0 f1 S0 hb4;go_wp2;go_ret;exact(by rw[HR.o];exact⟨rfl,_,_,HZ4.o⟩)
         |false=>
          go_wp2_with (first
           |(go_at_call 76;refine(letter_any c _ hc256).mono ?_;rintro e1 w2 ⟨rfl,rfl⟩;rw[hl1])
           |(go_at_call 68;refine(ldigit_any c _ hc256).mono ?_;rintro e1 w2 ⟨rfl,rfl⟩;rw[hl2]))
          refine wp_region_below (by kernel_rfl) (by kernel_rfl) ?_;have f0:=fun q:BelW w1=>q.cell b0
          have f1:=fun q:BelW w1=>q.cell b1
          have S0:=hd (fun q:BelW w1=>CLT.o q.w)
          repeat (go_big_quiet_step (first|(go_at_call 53;exact Calls.below_same (S0.o _))))
          refine wpQuiet_nil ?_;rintro w3 ⟨⟨_,hb3⟩,rfl⟩;have HZ3:=hd (HZ.o.below hb3);clear f0 f1 S0 hb3;have d0:=HZ3.o.c0;have d1:=HZ3.o.c1;clear b0 b1 b2 b3;go_wp2_with fail
          refine wp_region_below (by kernel_rfl) (by kernel_rfl) ?_;have f0:=fun q:BelW w3=>q.cell d0
          have f1:=fun q:BelW w3=>q.cell d1
          have S0:=hd (fun q:BelW w3=>CU.o q.w)
          repeat (go_big_quiet_step (first|(go_at_call 23;exact Calls.below_of (S0.o _))))
          refine wpQuiet_nil ?_;rintro w4 ⟨⟨_,hb4⟩,rfl⟩;have HZ4:=hd (HZ3.o.below hb4);have b14:=HZ4.o.c1;clear f0 f1 S0 hb4;go_wp2;go_ret;exact(by rw[HR.o];exact⟨rfl,_,_,HZ4.o⟩)
       ·have heN:(ler !=0)=true:=by(rw[bne_iff_ne];exact he)
        have HR:Hd (SC.tok s p br sq=.bad 111):=hd (by rw[HTK.o];unfold SC.litK;rw[HLE.o,if_pos (.inl he)]);cases br with
        |true=>
         go_wp2_with (first
          |(go_at_call 76;refine(letter_any c _ hc256).mono ?_;rintro e1 w2 ⟨rfl,rfl⟩;rw[hl1])
          |(go_at_call 68;refine(ldigit_any c _ hc256).mono ?_;rintro e1 w2 ⟨rfl,rfl⟩;rw[hl2]))
         refine wp_region_below (by kernel_rfl) (by kernel_rfl) ?_;have f0:=fun q:BelW w1=>q.cell b0
         have f1:=fun q:BelW w1=>q.cell b1
         have S0:=hd (fun q:BelW w1=>CLT.o q.w)
         repeat (go_big_quiet_step (first|(go_at_call 53;exact Calls.below_same (S0.o _))))
         refine wpQuiet_nil ?_;rintro w3 ⟨⟨_,hb3⟩,rfl⟩;have HZ3:=hd (HZ.o.below hb3);clear f0 f1 S0 hb3;go_wp2;go_ret;exact(by rw[HR.o];exact⟨rfl,_,_,HZ3.o⟩)
        |false=>
         go_wp2_with (first
          |(go_at_call 76;refine(letter_any c _ hc256).mono ?_;rintro e1 w2 ⟨rfl,rfl⟩;rw[hl1])
          |(go_at_call 68;refine(ldigit_any c _ hc256).mono ?_;rintro e1 w2 ⟨rfl,rfl⟩;rw[hl2]))
         refine wp_region_below (by kernel_rfl) (by kernel_rfl) ?_;have f0:=fun q:BelW w1=>q.cell b0
         have f1:=fun q:BelW w1=>q.cell b1
         have S0:=hd (fun q:BelW w1=>CLT.o q.w)
         repeat (go_big_quiet_step (first|(go_at_call 53;exact Calls.below_same (S0.o _))))
         refine wpQuiet_nil ?_;rintro w3 ⟨⟨_,hb3⟩,rfl⟩;have HZ3:=hd (HZ.o.below hb3);clear f0 f1 S0 hb3;go_wp2;go_ret;exact(by rw[HR.o];exact⟨rfl,_,_,HZ3.o⟩)
      ·have t34:((c:Int)==34)=false:=by rw[hk];rfl
       have t39:((c:Int)==39)=true:=(by rw[hk];rfl);have t96:((c:Int)==96)=false:=(by rw[hk];rfl);clear hk HNB HNU HQU HNUF HQUT;by_cases he:ler=0
       ·subst he
        obtain⟨en,hen,hen1,hen2⟩:=HLF.o rfl;have hen0:le=(en:Int):=hen;subst hen0;have henp:(p:Int)≤(en:Int):=(by omega);have hens:(en:Int)≤(s.size:Int):=(by omega);have CU:=hd (fun W:World=>unquote_any (s.extract p en) W (by rw[ByteArray.size_extract];have:=HS.o;omega));obtain⟨uq,ue,HUE⟩:∃uq ue,Hd (U.unquote (s.extract p en)=(uq,ue)):=⟨_,_,hd rfl⟩
        rw[HUE.o]at CU;unfold strR at CU;simp only at CU;have CPT:=hd (fun (W:World) (hZ:SC.Zs z w0 W s p br sq T)=>by have h:=scput_any z w0 W s p (en-p) 5 br sq T hZ (by omega) (by omega) HS.o;rw[show ((5:Nat):Int)=5 from rfl,show (((en-p:Nat):Nat):Int)=(en:Int)-(p:Int) by omega]at h;exact h);by_cases hu:ue=0
        ·subst hu
         have HR:Hd (SC.tok s p br sq=.ok 5 (en-p) br sq):=hd (by rw[HTK.o];unfold SC.litK;rw[HLE.o,Int.toNat_natCast,HUE.o,if_neg (by simp)]);cases br with
         |true=>
          go_wp2_with (first
           |(go_at_call 76;refine(letter_any c _ hc256).mono ?_;rintro e1 w2 ⟨rfl,rfl⟩;rw[hl1])
           |(go_at_call 68;refine(ldigit_any c _ hc256).mono ?_;rintro e1 w2 ⟨rfl,rfl⟩;rw[hl2]))
          refine wp_region_below (by kernel_rfl) (by kernel_rfl) ?_;have f0:=fun q:BelW w1=>q.cell b0
          have f1:=fun q:BelW w1=>q.cell b1
          have S0:=hd (fun q:BelW w1=>CLT.o q.w)
          repeat (go_big_quiet_step (first|(go_at_call 53;exact Calls.below_same (S0.o _))))
          refine wpQuiet_nil ?_;rintro w3 ⟨⟨_,hb3⟩,rfl⟩;have HZ3:=hd (HZ.o.below hb3);clear f0 f1 S0 hb3;have d0:=HZ3.o.c0;have d1:=HZ3.o.c1;clear b0 b1 b2 b3;go_wp2_with fail
          refine wp_region_below (by kernel_rfl) (by kernel_rfl) ?_;have f0:=fun q:BelW w3=>q.cell d0
          have f1:=fun q:BelW w3=>q.cell d1
          have S0:=hd (fun q:BelW w3=>CU.o q.w)
          repeat (go_big_quiet_step (first|(go_at_call 23;exact Calls.below_of (S0.o _))))
          refine wpQuiet_nil ?_;rintro w4 ⟨⟨_,hb4⟩,rfl⟩;have HZ4:=hd (HZ3.o.below hb4);have b14:=HZ4.o.c1;clear f0 f1 S0 hb4;go_wp2_with (first
           |(go_at_call 83;refine(CPT.o _ HZ4.o).mono ?_;rintro e5 w5 ⟨rfl,hz5⟩))
          go_ret;exact(by rw[HR.o];exact⟨rfl,hz5⟩)
         |false=>
          go_wp2_with (first
           |(go_at_call 76;refine(letter_any c _ hc256).mono ?_;rintro e1 w2 ⟨rfl,rfl⟩;rw[hl1])
           |(go_at_call 68;refine(ldigit_any c _ hc256).mono ?_;rintro e1 w2 ⟨rfl,rfl⟩;rw[hl2]))
          refine wp_region_below (by kernel_rfl) (by kernel_rfl) ?_;have f0:=fun q:BelW w1=>q.cell b0
          have f1:=fun q:BelW w1=>q.cell b1
          have S0:=hd (fun q:BelW w1=>CLT.o q.w)
          repeat (go_big_quiet_step (first|(go_at_call 53;exact Calls.below_same (S0.o _))))
          refine wpQuiet_nil ?_;rintro w3 ⟨⟨_,hb3⟩,rfl⟩;have HZ3:=hd (HZ.o.below hb3);clear f0 f1 S0 hb3;have d0:=HZ3.o.c0;have d1:=HZ3.o.c1;clear b0 b1 b2 b3;go_wp2_with fail
          refine wp_region_below (by kernel_rfl) (by kernel_rfl) ?_;have f0:=fun q:BelW w3=>q.cell d0
          have f1:=fun q:BelW w3=>q.cell d1
          have S0:=hd (fun q:BelW w3=>CU.o q.w)
          repeat (go_big_quiet_step (first|(go_at_call 23;exact Calls.below_of (S0.o _))))
          refine wpQuiet_nil ?_;rintro w4 ⟨⟨_,hb4⟩,rfl⟩;have HZ4:=hd (HZ3.o.below hb4);have b14:=HZ4.o.c1;clear f0 f1 S0 hb4;go_wp2_with (first
           |(go_at_call 83;refine(CPT.o _ HZ4.o).mono ?_;rintro e5 w5 ⟨rfl,hz5⟩))
          go_ret;exact(by rw[HR.o];exact⟨rfl,hz5⟩)
        ·have huN:(ue !=0)=true:=by(rw[bne_iff_ne];exact hu)
         have HR:Hd (SC.tok s p br sq=.bad 111):=hd (by rw[HTK.o];unfold SC.litK;rw[HLE.o,Int.toNat_natCast,HUE.o,if_pos (.inr hu)]);cases br with
         |true=>
          go_wp2_with (first
           |(go_at_call 76;refine(letter_any c _ hc256).mono ?_;rintro e1 w2 ⟨rfl,rfl⟩;rw[hl1])
           |(go_at_call 68;refine(ldigit_any c _ hc256).mono ?_;rintro e1 w2 ⟨rfl,rfl⟩;rw[hl2]))
          refine wp_region_below (by kernel_rfl) (by kernel_rfl) ?_;have f0:=fun q:BelW w1=>q.cell b0
          have f1:=fun q:BelW w1=>q.cell b1
          have S0:=hd (fun q:BelW w1=>CLT.o q.w)
          repeat (go_big_quiet_step (first|(go_at_call 53;exact Calls.below_same (S0.o _))))
          refine wpQuiet_nil ?_;rintro w3 ⟨⟨_,hb3⟩,rfl⟩;have HZ3:=hd (HZ.o.below hb3);clear f0 f1 S0 hb3;have d0:=HZ3.o.c0;have d1:=HZ3.o.c1;clear b0 b1 b2 b3;go_wp2_with fail
          refine wp_region_below (by kernel_rfl) (by kernel_rfl) ?_;have f0:=fun q:BelW w3=>q.cell d0
          have f1:=fun q:BelW w3=>q.cell d1
          have S0:=hd (fun q:BelW w3=>CU.o q.w)
          repeat (go_big_quiet_step (first|(go_at_call 23;exact Calls.below_of (S0.o _))))
          refine wpQuiet_nil ?_;rintro w4 ⟨⟨_,hb4⟩,rfl⟩;have HZ4:=hd (HZ3.o.below hb4);have b14:=HZ4.o.c1;clear f0 f1 S0 hb4;go_wp2;go_ret;exact(by rw[HR.o];exact⟨rfl,_,_,HZ4.o⟩)
         |false=>
          go_wp2_with (first
           |(go_at_call 76;refine(letter_any c _ hc256).mono ?_;rintro e1 w2 ⟨rfl,rfl⟩;rw[hl1])
           |(go_at_call 68;refine(ldigit_any c _ hc256).mono ?_;rintro e1 w2 ⟨rfl,rfl⟩;rw[hl2]))
          refine wp_region_below (by kernel_rfl) (by kernel_rfl) ?_;have f0:=fun q:BelW w1=>q.cell b0
          have f1:=fun q:BelW w1=>q.cell b1
          have S0:=hd (fun q:BelW w1=>CLT.o q.w)
          repeat (go_big_quiet_step (first|(go_at_call 53;exact Calls.below_same (S0.o _))))
          refine wpQuiet_nil ?_;rintro w3 ⟨⟨_,hb3⟩,rfl⟩;have HZ3:=hd (HZ.o.below hb3);clear f0 f1 S0 hb3;have d0:=HZ3.o.c0;have d1:=HZ3.o.c1;clear b0 b1 b2 b3;go_wp2_with fail
          refine wp_region_below (by kernel_rfl) (by kernel_rfl) ?_;have f0:=fun q:BelW w3=>q.cell d0
          have f1:=fun q:BelW w3=>q.cell d1
          have S0:=hd (fun q:BelW w3=>CU.o q.w)
          repeat (go_big_quiet_step (first|(go_at_call 23;exact Calls.below_of (S0.o _))))
          refine wpQuiet_nil ?_;rintro w4 ⟨⟨_,hb4⟩,rfl⟩;have HZ4:=hd (HZ3.o.below hb4);have b14:=HZ4.o.c1;clear f0 f1 S0 hb4;go_wp2;go_ret;exact(by rw[HR.o];exact⟨rfl,_,_,HZ4.o⟩)
       ·have heN:(ler !=0)=true:=by(rw[bne_iff_ne];exact he)
        have HR:Hd (SC.tok s p br sq=.bad 111):=hd (by rw[HTK.o];unfold SC.litK;rw[HLE.o,if_pos (.inl he)]);cases br with
        |true=>
         go_wp2_with (first
          |(go_at_call 76;refine(letter_any c _ hc256).mono ?_;rintro e1 w2 ⟨rfl,rfl⟩;rw[hl1])
          |(go_at_call 68;refine(ldigit_any c _ hc256).mono ?_;rintro e1 w2 ⟨rfl,rfl⟩;rw[hl2]))
         refine wp_region_below (by kernel_rfl) (by kernel_rfl) ?_;have f0:=fun q:BelW w1=>q.cell b0
         have f1:=fun q:BelW w1=>q.cell b1
         have S0:=hd (fun q:BelW w1=>CLT.o q.w)
         repeat (go_big_quiet_step (first|(go_at_call 53;exact Calls.below_same (S0.o _))))
         refine wpQuiet_nil ?_;rintro w3 ⟨⟨_,hb3⟩,rfl⟩;have HZ3:=hd (HZ.o.below hb3);clear f0 f1 S0 hb3;go_wp2;go_ret;exact(by rw[HR.o];exact⟨rfl,_,_,HZ3.o⟩)
        |false=>
         go_wp2_with (first
          |(go_at_call 76;refine(letter_any c _ hc256).mono ?_;rintro e1 w2 ⟨rfl,rfl⟩;rw[hl1])
          |(go_at_call 68;refine(ldigit_any c _ hc256).mono ?_;rintro e1 w2 ⟨rfl,rfl⟩;rw[hl2]))
         refine wp_region_below (by kernel_rfl) (by kernel_rfl) ?_;have f0:=fun q:BelW w1=>q.cell b0
         have f1:=fun q:BelW w1=>q.cell b1
         have S0:=hd (fun q:BelW w1=>CLT.o q.w)
         repeat (go_big_quiet_step (first|(go_at_call 53;exact Calls.below_same (S0.o _))))
         refine wpQuiet_nil ?_;rintro w3 ⟨⟨_,hb3⟩,rfl⟩;have HZ3:=hd (HZ.o.below hb3);clear f0 f1 S0 hb3;go_wp2;go_ret;exact(by rw[HR.o];exact⟨rfl,_,_,HZ3.o⟩)
      ·have t34:((c:Int)==34)=false:=by rw[hk];rfl
       have t39:((c:Int)==39)=false:=(by rw[hk];rfl);have t96:((c:Int)==96)=true:=(by rw[hk];rfl);clear hk HNB HNU HQU HNUF HQUT;by_cases he:ler=0
       ·subst he
        obtain⟨en,hen,hen1,hen2⟩:=HLF.o rfl;have hen0:le=(en:Int):=hen;subst hen0;have henp:(p:Int)≤(en:Int):=(by omega);have hens:(en:Int)≤(s.size:Int):=(by omega);have CU:=hd (fun W:World=>unquote_any (s.extract p en) W (by rw[ByteArray.size_extract];have:=HS.o;omega));obtain⟨uq,ue,HUE⟩:∃uq ue,Hd (U.unquote (s.extract p en)=(uq,ue)):=⟨_,_,hd rfl⟩
        rw[HUE.o]at CU;unfold strR at CU;simp only at CU;have CPT:=hd (fun (W:World) (hZ:SC.Zs z w0 W s p br sq T)=>by have h:=scput_any z w0 W s p (en-p) 5 br sq T hZ (by omega) (by omega) HS.o;rw[show ((5:Nat):Int)=5 from rfl,show (((en-p:Nat):Nat):Int)=(en:Int)-(p:Int) by omega]at h;exact h);by_cases hu:ue=0
        ·subst hu
         have HR:Hd (SC.tok s p br sq=.ok 5 (en-p) br sq):=hd (by rw[HTK.o];unfold SC.litK;rw[HLE.o,Int.toNat_natCast,HUE.o,if_neg (by simp)]);cases br with
         |true=>
          go_wp2_with (first
           |(go_at_call 76;refine(letter_any c _ hc256).mono ?_;rintro e1 w2 ⟨rfl,rfl⟩;rw[hl1])
           |(go_at_call 68;refine(ldigit_any c _ hc256).mono ?_;rintro e1 w2 ⟨rfl,rfl⟩;rw[hl2]))
          refine wp_region_below (by kernel_rfl) (by kernel_rfl) ?_;have f0:=fun q:BelW w1=>q.cell b0
          have f1:=fun q:BelW w1=>q.cell b1
          have S0:=hd (fun q:BelW w1=>CLT.o q.w)
          repeat (go_big_quiet_step (first|(go_at_call 53;exact Calls.below_same (S0.o _))))
          refine wpQuiet_nil ?_;rintro w3 ⟨⟨_,hb3⟩,rfl⟩;have HZ3:=hd (HZ.o.below hb3);clear f0 f1 S0 hb3;have d0:=HZ3.o.c0;have d1:=HZ3.o.c1;clear b0 b1 b2 b3;go_wp2_with fail
          refine wp_region_below (by kernel_rfl) (by kernel_rfl) ?_;have f0:=fun q:BelW w3=>q.cell d0
          have f1:=fun q:BelW w3=>q.cell d1
          have S0:=hd (fun q:BelW w3=>CU.o q.w)
          repeat (go_big_quiet_step (first|(go_at_call 23;exact Calls.below_of (S0.o _))))
          refine wpQuiet_nil ?_;rintro w4 ⟨⟨_,hb4⟩,rfl⟩;have HZ4:=hd (HZ3.o.below hb4);have b14:=HZ4.o.c1;clear f0 f1 S0 hb4;go_wp2_with (first
           |(go_at_call 83;refine(CPT.o _ HZ4.o).mono ?_;rintro e5 w5 ⟨rfl,hz5⟩))
          go_ret;exact(by rw[HR.o];exact⟨rfl,hz5⟩)
         |false=>
          go_wp2_with (first
           |(go_at_call 76;refine(letter_any c _ hc256).mono ?_;rintro e1 w2 ⟨rfl,rfl⟩;rw[hl1])
           |(go_at_call 68;refine(ldigit_any c _ hc256).mono ?_;rintro e1 w2 ⟨rfl,rfl⟩;rw[hl2]))
          refine wp_region_below (by kernel_rfl) (by kernel_rfl) ?_;have f0:=fun q:BelW w1=>q.cell b0
          have f1:=fun q:BelW w1=>q.cell b1
          have S0:=hd (fun q:BelW w1=>CLT.o q.w)
          repeat (go_big_quiet_step (first|(go_at_call 53;exact Calls.below_same (S0.o _))))
          refine wpQuiet_nil ?_;rintro w3 ⟨⟨_,hb3⟩,rfl⟩;have HZ3:=hd (HZ.o.below hb3);clear f0 f1 S0 hb3;have d0:=HZ3.o.c0;have d1:=HZ3.o.c1;clear b0 b1 b2 b3;go_wp2_with fail
          refine wp_region_below (by kernel_rfl) (by kernel_rfl) ?_;have f0:=fun q:BelW w3=>q.cell d0
          have f1:=fun q:BelW w3=>q.cell d1
          have S0:=hd (fun q:BelW w3=>CU.o q.w)
          repeat (go_big_quiet_step (first|(go_at_call 23;exact Calls.below_of (S0.o _))))
          refine wpQuiet_nil ?_;rintro w4 ⟨⟨_,hb4⟩,rfl⟩;have HZ4:=hd (HZ3.o.below hb4);have b14:=HZ4.o.c1;clear f0 f1 S0 hb4;go_wp2_with (first
           |(go_at_call 83;refine(CPT.o _ HZ4.o).mono ?_;rintro e5 w5 ⟨rfl,hz5⟩))
          go_ret;exact(by rw[HR.o];exact⟨rfl,hz5⟩)
        ·have huN:(ue !=0)=true:=by(rw[bne_iff_ne];exact hu)
         have HR:Hd (SC.tok s p br sq=.bad 111):=hd (by rw[HTK.o];unfold SC.litK;rw[HLE.o,Int.toNat_natCast,HUE.o,if_pos (.inr hu)]);cases br with
         |true=>
          go_wp2_with (first
           |(go_at_call 76;refine(letter_any c _ hc256).mono ?_;rintro e1 w2 ⟨rfl,rfl⟩;rw[hl1])
           |(go_at_call 68;refine(ldigit_any c _ hc256).mono ?_;rintro e1 w2 ⟨rfl,rfl⟩;rw[hl2]))
          refine wp_region_below (by kernel_rfl) (by kernel_rfl) ?_;have f0:=fun q:BelW w1=>q.cell b0
          have f1:=fun q:BelW w1=>q.cell b1
          have S0:=hd (fun q:BelW w1=>CLT.o q.w)
          repeat (go_big_quiet_step (first|(go_at_call 53;exact Calls.below_same (S0.o _))))
          refine wpQuiet_nil ?_;rintro w3 ⟨⟨_,hb3⟩,rfl⟩;have HZ3:=hd (HZ.o.below hb3);clear f0 f1 S0 hb3;have d0:=HZ3.o.c0;have d1:=HZ3.o.c1;clear b0 b1 b2 b3;go_wp2_with fail
          refine wp_region_below (by kernel_rfl) (by kernel_rfl) ?_;have f0:=fun q:BelW w3=>q.cell d0
          have f1:=fun q:BelW w3=>q.cell d1
          have S0:=hd (fun q:BelW w3=>CU.o q.w)
          repeat (go_big_quiet_step (first|(go_at_call 23;exact Calls.below_of (S0.o _))))
          refine wpQuiet_nil ?_;rintro w4 ⟨⟨_,hb4⟩,rfl⟩;have HZ4:=hd (HZ3.o.below hb4);have b14:=HZ4.o.c1;clear f0 f1 S0 hb4;go_wp2;go_ret;exact(by rw[HR.o];exact⟨rfl,_,_,HZ4.o⟩)
         |false=>
          go_wp2_with (first
           |(go_at_call 76;refine(letter_any c _ hc256).mono ?_;rintro e1 w2 ⟨rfl,rfl⟩;rw[hl1])
           |(go_at_call 68;refine(ldigit_any c _ hc256).mono ?_;rintro e1 w2 ⟨rfl,rfl⟩;rw[hl2]))
          refine wp_region_below (by kernel_rfl) (by kernel_rfl) ?_;have f0:=fun q:BelW w1=>q.cell b0
          have f1:=fun q:BelW w1=>q.cell b1
          have S0:=hd (fun q:BelW w1=>CLT.o q.w)
          repeat (go_big_quiet_step (first|(go_at_call 53;exact Calls.below_same (S0.o _))))
          refine wpQuiet_nil ?_;rintro w3 ⟨⟨_,hb3⟩,rfl⟩;have HZ3:=hd (HZ.o.below hb3);clear f0 f1 S0 hb3;have d0:=HZ3.o.c0;have d1:=HZ3.o.c1;clear b0 b1 b2 b3;go_wp2_with fail
          refine wp_region_below (by kernel_rfl) (by kernel_rfl) ?_;have f0:=fun q:BelW w3=>q.cell d0
          have f1:=fun q:BelW w3=>q.cell d1
          have S0:=hd (fun q:BelW w3=>CU.o q.w)
          repeat (go_big_quiet_step (first|(go_at_call 23;exact Calls.below_of (S0.o _))))
          refine wpQuiet_nil ?_;rintro w4 ⟨⟨_,hb4⟩,rfl⟩;have HZ4:=hd (HZ3.o.below hb4);have b14:=HZ4.o.c1;clear f0 f1 S0 hb4;go_wp2;go_ret;exact(by rw[HR.o];exact⟨rfl,_,_,HZ4.o⟩)
       ·have heN:(ler !=0)=true:=by(rw[bne_iff_ne];exact he)
        have HR:Hd (SC.tok s p br sq=.bad 111):=hd (by rw[HTK.o];unfold SC.litK;rw[HLE.o,if_pos (.inl he)]);cases br with
        |true=>
         go_wp2_with (first
          |(go_at_call 76;refine(letter_any c _ hc256).mono ?_;rintro e1 w2 ⟨rfl,rfl⟩;rw[hl1])
          |(go_at_call 68;refine(ldigit_any c _ hc256).mono ?_;rintro e1 w2 ⟨rfl,rfl⟩;rw[hl2]))
         refine wp_region_below (by kernel_rfl) (by kernel_rfl) ?_;have f0:=fun q:BelW w1=>q.cell b0
         have f1:=fun q:BelW w1=>q.cell b1
         have S0:=hd (fun q:BelW w1=>CLT.o q.w)
         repeat (go_big_quiet_step (first|(go_at_call 53;exact Calls.below_same (S0.o _))))
         refine wpQuiet_nil ?_;rintro w3 ⟨⟨_,hb3⟩,rfl⟩;have HZ3:=hd (HZ.o.below hb3);clear f0 f1 S0 hb3;go_wp2;go_ret;exact(by rw[HR.o];exact⟨rfl,_,_,HZ3.o⟩)
        |false=>
         go_wp2_with (first
          |(go_at_call 76;refine(letter_any c _ hc256).mono ?_;rintro e1 w2 ⟨rfl,rfl⟩;rw[hl1])
          |(go_at_call 68;refine(ldigit_any c _ hc256).mono ?_;rintro e1 w2 ⟨rfl,rfl⟩;rw[hl2]))
         refine wp_region_below (by kernel_rfl) (by kernel_rfl) ?_;have f0:=fun q:BelW w1=>q.cell b0
         have f1:=fun q:BelW w1=>q.cell b1
         have S0:=hd (fun q:BelW w1=>CLT.o q.w)
         repeat (go_big_quiet_step (first|(go_at_call 53;exact Calls.below_same (S0.o _))))
         refine wpQuiet_nil ?_;rintro w3 ⟨⟨_,hb3⟩,rfl⟩;have HZ3:=hd (HZ.o.below hb3);clear f0 f1 S0 hb3;go_wp2;go_ret;exact(by rw[HR.o];exact⟨rfl,_,_,HZ3.o⟩)
     ·have t34:((c:Int)==34)=false:=by(rw[bf];omega)
      have t39:((c:Int)==39)=false:=by(rw[bf];omega)
      have t96:((c:Int)==96)=false:=by(rw[bf];omega)
      have HQUF:Hd (SC.quoB (U.at' s p)=false):=hd (by rw[HQU.o];simp;omega);cases br with
      |true=>
       have HR:Hd (SC.tok s p true sq=SC.opR (U.at' s p) (U.at' s (p+1)) true sq):=hd (SC.tok_op' HNBF.o HNUF.o HQUF.o);have COP:=hd (scop_any z w0 w1 s p true sq T HZ.o HP.o HS.o);clear HNB HNU HQU hq;go_wp2_with (first
        |(go_at_call 76;refine(letter_any c _ hc256).mono ?_;rintro e1 w2 ⟨rfl,rfl⟩;rw[hl1])
        |(go_at_call 68;refine(ldigit_any c _ hc256).mono ?_;rintro e1 w2 ⟨rfl,rfl⟩;rw[hl2])
        |(go_at_call 85;refine COP.o.mono ?_;rintro e3 w3 hz3;obtain⟨x3,rfl,hz4⟩:=SC.TokS.ret hz3;have HZ3:=hd hz4;clear hz3 hz4))
       go_ret;exact(by rw[HR.o];exact HZ3.o)
      |false=>
       have HR:Hd (SC.tok s p false sq=SC.opR (U.at' s p) (U.at' s (p+1)) false sq):=hd (SC.tok_op' HNBF.o HNUF.o HQUF.o);have COP:=hd (scop_any z w0 w1 s p false sq T HZ.o HP.o HS.o);clear HNB HNU HQU hq;go_wp2_with (first
        |(go_at_call 76;refine(letter_any c _ hc256).mono ?_;rintro e1 w2 ⟨rfl,rfl⟩;rw[hl1])
        |(go_at_call 68;refine(ldigit_any c _ hc256).mono ?_;rintro e1 w2 ⟨rfl,rfl⟩;rw[hl2])
        |(go_at_call 85;refine COP.o.mono ?_;rintro e3 w3 hz3;obtain⟨x3,rfl,hz4⟩:=SC.TokS.ret hz3;have HZ3:=hd hz4;clear hz3 hz4))
       go_ret;exact(by rw[HR.o];exact HZ3.o)
end Go.Proofs.YtieknenhfeejiaaGreatDoor
namespace Go.Proofs
open Go.Shelf
shelf_lay Lays.n137 Nm 137 at Tryz as Tryz.laysN137
namespace YtieknenhfeejiaaGreatDoor
open _root_.Go.Proofs.Tryz
open Go.RowKit
theorem wp_scope_label {P:Program}{a:Act}{w:World}{Q:Exit→Act→World→Prop}{c rest:Code}(l:Nat)(J:Act→World→Prop)(μ:Act→World→Nat)(hf:findLabel c l=some (Code.skip.seq rest))
  (pass:∀a w,J a w→rest.wp P (Exit.jump l (fun a' w'=>J a' w'∧μ a' w'<μ a w) Q) a w)
  (first:(∀a w,J a w→rest.wp P (Exit.jump l J Q) a w)→c.wp P (Exit.jump l J Q) a w):(Code.scope c).wp P Q a w:=by
 refine wp_scope_jumps l J μ hf (first fun a w hJ=>wp_mono (pass a w hJ) ?_) (fun a w hJ=>wp_seq (wp_skip (pass a w hJ)));intro e a' w' h;cases e with
 |goto l'=>exact⟨h.1,h.2.1⟩
 |normal=>exact h
 |exit id=>exact h
 |ret=>exact h
 |panic ch=>exact h
 |outgrown=>exact h
def SC.ScanA (w:World)(o:SC.Out)(e:Ending)(w':World):Prop:=
 match o with
 | .ok l=>∃v,e=.returned (.tuple #[v,.int .i64 0,.int .i64 0])∧w'.ownsRow w.heap.size 53 3 v l.length (SC.cellsT l)∧Below w.heap.size w w'
 | .bad p er=>e=.returned (.tuple #[.slice none 0 0,.int .i64 (p:Int),.int .i64 er])∧Below w.heap.size w w'
noncomputable def SC.scan (s:ByteArray):SC.Out:=if 33554432<s.size then .bad 0 1 else SC.go s 0 false false
namespace SC
theorem bl_true:∀r:List UInt8,(Lib.indexByte r 10 = -1→bl true r=r.length)∧(∀k:Nat,Lib.indexByte r 10=k→k<r.length∧bl true r=(k+1)+bl false (r.drop (k+1)))
 |[]=>⟨fun _=>rfl,fun k h=>by unfold Lib.indexByte at h;omega⟩
 |b::r=>by
  obtain⟨ih1,ih2⟩:=bl_true r;have hg:=Lib.indexByte_ge r 10;by_cases hb:(b==(10:UInt8))=true
  ·have hb2:b.toNat=10:=by rw[beq_iff_eq.1 hb];rfl
   have e:Lib.indexByte (b::r) 10=0:=(by unfold Lib.indexByte;rw[if_pos hb]);rw[e];refine⟨fun h=>by omega,fun k h=>?_⟩;obtain rfl:k=0:=by omega
   rw[bl_nl hb2];exact⟨by simp,by simp;omega⟩
  ·have hb2:b.toNat≠10:=fun h=>hb (by rw[beq_iff_eq];exact UInt8.toNat_inj.1 h)
   rw[bl_in hb2];by_cases h1:Lib.indexByte r 10 = -1
   ·have e:Lib.indexByte (b::r) 10 = -1:=by unfold Lib.indexByte;rw[if_neg hb,h1];rfl
    rw[e];exact⟨fun _=>by rw[ih1 h1];simp,fun k h=>by omega⟩
   ·have e:Lib.indexByte (b::r) 10=Lib.indexByte r 10+1:=by
     rw[Lib.indexByte,if_neg hb,if_neg (by rw[beq_iff_eq];exact h1)]
    rw[e];refine⟨fun h=>by omega,fun k h=>?_⟩;obtain⟨k',hk'⟩:∃k':Nat,Lib.indexByte r 10=k':=⟨(Lib.indexByte r 10).toNat,by omega⟩
    obtain⟨h2,h3⟩:=ih2 k' hk';obtain rfl:k=k'+1:=by omega
    refine⟨by simp;omega,?_⟩;rw[h3,List.drop_succ_cons];omega
theorem tok_bad {s:ByteArray}{p:Nat}{br sq:Bool}{er:Int}(h:tok s p br sq=.bad er):er=110∨er=111∨er=112:=by
 unfold tok at h;split at h
 ·unfold nameR at h;cases h
 ·split at h
  ·unfold number at h
   split at h<;>split at h<;>first|(cases h;done)|(simp only[R.bad.injEq]at h;omega)
  ·split at h
   ·unfold litK at h
    split at h<;>first|(cases h;done)|(simp only[R.bad.injEq]at h;omega)
   ·unfold opR at h
    repeat' split at h
    all_goals first|(cases h;done)|(simp only[R.bad.injEq]at h;omega)
def atOf (z:Nat)(w:World):Nat:=match w.cell? ⟨z,1,none⟩ with|some (.int _ q)=>q.toNat|_=>0
theorem atOf_eq {z:Nat}{w0 w:World}{s:ByteArray}{p:Nat}{br sq:Bool}{T:List Tk}(h:Zs z w0 w s p br sq T):atOf z w=p:=by
 unfold atOf;rw[h.c1];simp
theorem go_blank {s:ByteArray}{p:Nat}{br sq:Bool}(h:p<s.size)(hb:blank (U.at' s p)=true):go s p br sq=go s (p+1) br sq:=by
 obtain⟨c,r,hd,hc,hr⟩:=at_drop s p h;refine go_eq ?_;rw[hd,bl_blank (by rw[hc];exact hb),hr];omega
theorem go_hash {s:ByteArray}{p:Nat}{br sq:Bool}(h:p<s.size)(hb:U.at' s p=35) :
  (Lib.indexByte (s.data.toList.drop p) 10 = -1→go s p br sq=go s s.size br sq)∧(∀k:Nat,Lib.indexByte (s.data.toList.drop p) 10=k→p+k+1≤s.size∧go s p br sq=go s (p+k+1) br sq):=by
 obtain⟨c,r,hd,hc,hr⟩:=at_drop s p h;have hrl:r.length=s.size-p-1:=(by rw[hr,List.length_drop,←Lib.size_eq];omega);have hc35:c.toNat=35:=hc.trans hb;have hne:¬ (c==(10:UInt8))=true:=fun e=>by rw[beq_iff_eq.1 e]at hc35;exact absurd hc35 (by decide)
 have hg:=Lib.indexByte_ge r 10;obtain⟨h1,h2⟩:=bl_true r;rw[hd]
 constructor
 ·intro hi
  have hi':Lib.indexByte r 10 = -1:=by
   rw[Lib.indexByte,if_neg hne]at hi;split at hi
   ·rename_i h;simpa using h
   ·omega
  refine go_eq ?_;rw[hd,bl_hash hc35,h1 hi',List.drop_eq_nil_of_le (by rw[←Lib.size_eq];exact Nat.le_refl _),bl_nil];omega
 ·intro k hi
  obtain⟨hi',hi1⟩:Lib.indexByte r 10+1=k∧Lib.indexByte r 10≠-1:=by
   rw[Lib.indexByte,if_neg hne]at hi;split at hi
   ·omega
   ·rename_i hx
    exact⟨hi,fun e=>hx (by rw[e];rfl)⟩
  obtain⟨k',hk'⟩:∃k':Nat,Lib.indexByte r 10=k':=⟨(Lib.indexByte r 10).toNat,by omega⟩
  obtain⟨h3,h4⟩:=h2 k' hk';obtain rfl:k=k'+1:=by omega
  refine⟨by omega,go_eq ?_⟩;rw[hd,bl_hash hc35,h4,hr,List.drop_drop];have e:p+1+(k'+1)=p+(k'+1)+1:=(by omega);rw[e];omega
theorem go_tok' {s:ByteArray}{p k n:Nat}{br sq b q:Bool}(h:p<s.size)(hb:blank (U.at' s p)=false)(h35:U.at' s p≠35)(ht:tok s p br sq=.ok k n b q) :
  0<n∧p+n≤s.size∧go s p br sq=(go s (p+n) b q).pre [⟨k,s.extract p (p+n),p⟩]:=by
 obtain⟨c,r,hd,hc,hr⟩:=at_drop s p h;obtain⟨h1,h2⟩:=tok_n h ht;exact⟨h1,h2,go_tok h (by rw[hd];exact bl_none (by rw[hc];exact hb) (by rw[hc];exact h35)) ht h1⟩
theorem go_fault' {s:ByteArray}{p:Nat}{br sq:Bool}{er:Int}(h:p<s.size)(hb:blank (U.at' s p)=false)(h35:U.at' s p≠35)(ht:tok s p br sq=.bad er):go s p br sq=.bad p er:=by
 obtain⟨c,r,hd,hc,hr⟩:=at_drop s p h;exact go_fault h (by rw[hd];exact bl_none (by rw[hc];exact hb) (by rw[hc];exact h35)) ht
end SC
theorem own_base {w:World}{B B':Nat}{e:TypeId}{size n:Nat}{v:Value}{xs:List Value}(h:w.ownsRow B e size v n xs)(hB:B'≤B):w.ownsRow B' e size v n xs:=by
 refine⟨h.1,?_⟩;rcases h.2 with hn|⟨g,cap,cur,rfl,hb,rest⟩
 ·exact .inl hn
 ·exact .inr ⟨g,cap,cur,rfl,Nat.le_trans hB hb,rest⟩
def SC.AtL (s:ByteArray)(z:Nat)(w0:World)(a':Act)(w':World):Prop:=
 ∃(p:Nat) (br sq:Bool) (T:List SC.Tk),SC.Zs z w0 w' s p br sq T∧Nm2 w'∧SC.go s 0 false false=(SC.go s p br sq).pre T∧
  ∃(u6 u7 u8 u9 u10 u11 u12 u13 u14 u15 u16 u17 u18 u19 u20 u21 u22 u23 u24 u25 u26 u27 u28 u29 u30 u31 u32 u33 u34 u35 u36 u37 u38 u39 u40 u41 u42 u43 u44 u45 u46 u47 u48 u49 u50 u51 u52 u53 u54 u55 u56 u57 u58 u59 u60 u61 u62 u63 u64 u65 u66 u67 u68 u69 u70 u71 u72 u73 u74 u75 u76:Value),a'={ tmps:=#[.string s,undef,.slice none 0 0,.int .i64 0,.int .i64 0,.pointer (some ⟨z,0,none⟩),u6,u7,u8,u9,u10,u11,u12,u13,u14,u15,u16,u17,u18,u19,u20,u21,u22,u23,u24,u25,u26,u27,u28,u29,u30,u31,u32,u33,u34,u35,u36,u37,u38,u39,u40,u41,u42,u43,u44,u45,u46,u47,u48,u49,u50,u51,u52,u53,u54,u55,u56,u57,u58,u59,u60,u61,u62,u63,u64,u65,u66,u67,u68,u69,u70,u71,u72,u73,u74,u75,u76],defers:=[] }
theorem scan_go (s:ByteArray)(w:World)(N:Nm2 w)(hs:s.size≤33554432) :
  Calls prog 20 #[.string s] w fun e w'=>SC.ScanA w (SC.go s 0 false false) e w':=by
 have hsI:(s.size:Int)≤33554432:=(by omega);have HS:=hd hs;have HN:=hd N;clear hs N;go_enter func20,ntmps20;go_wp2;refine wp_scope_label 0 (SC.AtL s w.heap.size w) (fun _ w'=>s.size-SC.atOf w.heap.size w') rfl ?pass ?first
 case first=>
  intro hp;go_wp2
  go_step3
  dsimp only[Exit.then]
  rename_i Kx hKx
  refine hKx _ _ (hp _ _ ⟨0,false,false,[],?_,?_,(SC.Out.pre_nil _).symm,_,_,_,_,_,_,_,_,_,_,_,_,_,_,_,_,_,_,_,_,_,_,_,_,_,_,_,_,_,_,_,_,_,_,_,_,_,_,_,_,_,_,_,_,_,_,_,_,_,_,_,_,_,_,_,_,_,_,_,_,_,_,_,_,_,_,_,_,_,_,_,rfl⟩)
  ·refine⟨⟨none,0,0,?_,?_,rfl⟩,?_,Nat.le_refl _,Nat.zero_le _⟩
   ·exact heap_alloc_new w _
   ·exact⟨by rfl,.inl ⟨rfl,rfl⟩⟩
   ·exact(Below.refl _ _).alloc (Nat.le_refl _) _
  ·exact HN.o.below ((Below.refl _ _).alloc (Nat.le_refl _) _)
 case pass=>
  rintro a' w' ⟨p,br,sq,T,hZ,hN,hG,u6,u7,u8,u9,u10,u11,u12,u13,u14,u15,u16,u17,u18,u19,u20,u21,u22,u23,u24,u25,u26,u27,u28,u29,u30,u31,u32,u33,u34,u35,u36,u37,u38,u39,u40,u41,u42,u43,u44,u45,u46,u47,u48,u49,u50,u51,u52,u53,u54,u55,u56,u57,u58,u59,u60,u61,u62,u63,u64,u65,u66,u67,u68,u69,u70,u71,u72,u73,u74,u75,u76,rfl⟩;have HZ:=hd hZ;have HG:=hd hG;have HNN:=hd hN;have hps:=hZ.ps;have b0:=hZ.c0;have b1:=hZ.c1;have f1:=hZ.fz 1;obtain⟨A,n',c',hz1,hz2,rfl⟩:=hZ.ex;have b4:=hz1.cell 4 (by simp);simp only[List.getElem_cons_zero,List.getElem_cons_succ]at b4;have HOW:=hd hz2
  have HMU:=hd (SC.atOf_eq hZ);have HBE:=hd hZ.bel;clear hZ hN hG hz1 hz2;by_cases hp:p<s.size
  ·have hpI:(p:Int)<(s.size:Int):=by omega
   have hpe:((p:Int)==(s.size:Int))=false:=by(rw[bf];omega)
   obtain⟨c,hc⟩:∃c,(s[p]'hp).toNat=c:=⟨_,rfl⟩
   have HC:Hd (U.at' s p=c):=hd (by rw[U.at_eq s p hp];exact hc);have hc256:c<256:=(by rw[←hc];exact(s[p]'hp).toNat_lt);by_cases k9:c=9
   ·subst k9
    have t9':(((s[p]'hp).toNat:Int)==9)=true:=(by rw[hc];rfl);have HB1:=hd (SC.go_blank (br:=br) (sq:=sq) hp (by rw[HC.o];rfl));go_wp2;have hZ':=HZ.o.setP (p+1) (by omega) hp;rw[Int.natCast_add,show ((1:Nat):Int)=1 from rfl]at hZ'
    go_step3
    refine⟨rfl,⟨p+1,br,sq,T,hZ',HN.o.below hZ'.bel,by rw[HG.o,HB1.o],_,_,_,_,_,_,_,_,_,_,_,_,_,_,_,_,_,_,_,_,_,_,_,_,_,_,_,_,_,_,_,_,_,_,_,_,_,_,_,_,_,_,_,_,_,_,_,_,_,_,_,_,_,_,_,_,_,_,_,_,_,_,_,_,_,_,_,_,_,_,_,rfl⟩,?_⟩;rw[SC.atOf_eq hZ',HMU.o];omega
   ·have t9:((c:Int)==9)=false:=by(rw[bf];omega)
    by_cases k10:c=10
    ·subst k10
     have t9':(((s[p]'hp).toNat:Int)==9)=false:=(by rw[hc];rfl);have t10':(((s[p]'hp).toNat:Int)==10)=true:=(by rw[hc];rfl);have HB1:=hd (SC.go_blank (br:=br) (sq:=sq) hp (by rw[HC.o];rfl));go_wp2;have hZ':=HZ.o.setP (p+1) (by omega) hp;rw[Int.natCast_add,show ((1:Nat):Int)=1 from rfl]at hZ'
     go_step3
     refine⟨rfl,⟨p+1,br,sq,T,hZ',HN.o.below hZ'.bel,by rw[HG.o,HB1.o],_,_,_,_,_,_,_,_,_,_,_,_,_,_,_,_,_,_,_,_,_,_,_,_,_,_,_,_,_,_,_,_,_,_,_,_,_,_,_,_,_,_,_,_,_,_,_,_,_,_,_,_,_,_,_,_,_,_,_,_,_,_,_,_,_,_,_,_,_,_,_,rfl⟩,?_⟩;rw[SC.atOf_eq hZ',HMU.o];omega
    ·have t10:((c:Int)==10)=false:=by(rw[bf];omega)
     by_cases k13:c=13
     ·subst k13
      have t9':(((s[p]'hp).toNat:Int)==9)=false:=(by rw[hc];rfl);have t10':(((s[p]'hp).toNat:Int)==10)=false:=(by rw[hc];rfl);have t13':(((s[p]'hp).toNat:Int)==13)=true:=(by rw[hc];rfl);have HB1:=hd (SC.go_blank (br:=br) (sq:=sq) hp (by rw[HC.o];rfl));go_wp2;have hZ':=HZ.o.setP (p+1) (by omega) hp;rw[Int.natCast_add,show ((1:Nat):Int)=1 from rfl]at hZ'
      go_step3
      refine⟨rfl,⟨p+1,br,sq,T,hZ',HN.o.below hZ'.bel,by rw[HG.o,HB1.o],_,_,_,_,_,_,_,_,_,_,_,_,_,_,_,_,_,_,_,_,_,_,_,_,_,_,_,_,_,_,_,_,_,_,_,_,_,_,_,_,_,_,_,_,_,_,_,_,_,_,_,_,_,_,_,_,_,_,_,_,_,_,_,_,_,_,_,_,_,_,_,rfl⟩,?_⟩;rw[SC.atOf_eq hZ',HMU.o];omega
     ·have t13:((c:Int)==13)=false:=by(rw[bf];omega)
      by_cases k32:c=32
      ·subst k32
       have t9':(((s[p]'hp).toNat:Int)==9)=false:=(by rw[hc];rfl);have t10':(((s[p]'hp).toNat:Int)==10)=false:=(by rw[hc];rfl);have t13':(((s[p]'hp).toNat:Int)==13)=false:=(by rw[hc];rfl);have t32':(((s[p]'hp).toNat:Int)==32)=true:=(by rw[hc];rfl);have HB1:=hd (SC.go_blank (br:=br) (sq:=sq) hp (by rw[HC.o];rfl));go_wp2;have hZ':=HZ.o.setP (p+1) (by omega) hp;rw[Int.natCast_add,show ((1:Nat):Int)=1 from rfl]at hZ'
       go_step3
       refine⟨rfl,⟨p+1,br,sq,T,hZ',HN.o.below hZ'.bel,by rw[HG.o,HB1.o],_,_,_,_,_,_,_,_,_,_,_,_,_,_,_,_,_,_,_,_,_,_,_,_,_,_,_,_,_,_,_,_,_,_,_,_,_,_,_,_,_,_,_,_,_,_,_,_,_,_,_,_,_,_,_,_,_,_,_,_,_,_,_,_,_,_,_,_,_,_,_,rfl⟩,?_⟩;rw[SC.atOf_eq hZ',HMU.o];omega
      ·have t32:((c:Int)==32)=false:=by(rw[bf];omega)
       by_cases k35:c=35
       ·have t35:((c:Int)==35)=true:=by rw[k35];rfl
        obtain⟨HH1,HH2⟩:=SC.go_hash (br:=br) (sq:=sq) hp (HC.o.trans k35);have CI:=hd (fun W:World=>by have h:=Any.strings_IndexByte Tryz.laysN137 (s.extract p s.size) 10 W;rw[SC.rest_list s p (by omega)]at h;exact h);rw[show ((10:Int).toNat.toUInt8)=(10:UInt8) from rfl]at CI;have hge:=Lib.indexByte_ge (s.data.toList.drop p) 10;clear k35;by_cases hm:Lib.indexByte (s.data.toList.drop p) 10 = -1
        ·have HB1:=hd (HH1 hm)
         rw[hm]at CI;clear HH1 HH2 hge hm;go_wp2_with (go_at_call 49;refine(CI.o _).mono ?_;rintro e1 w2 ⟨rfl,rfl⟩)
         have hZ':=HZ.o.setP s.size (by omega) (Nat.le_refl _)
         go_step3
         refine⟨rfl,⟨s.size,br,sq,T,hZ',HN.o.below hZ'.bel,by rw[HG.o,HB1.o],_,_,_,_,_,_,_,_,_,_,_,_,_,_,_,_,_,_,_,_,_,_,_,_,_,_,_,_,_,_,_,_,_,_,_,_,_,_,_,_,_,_,_,_,_,_,_,_,_,_,_,_,_,_,_,_,_,_,_,_,_,_,_,_,_,_,_,_,_,_,_,rfl⟩,?_⟩;rw[SC.atOf_eq hZ',HMU.o];omega
        ·obtain⟨k,hk⟩:∃k:Nat,Lib.indexByte (s.data.toList.drop p) 10=k:=⟨(Lib.indexByte (s.data.toList.drop p) 10).toNat,by omega⟩
         obtain⟨hk1,hk2⟩:=HH2 k hk;have HB1:=hd hk2;rw[hk]at CI;clear HH1 HH2 hge hm hk hk2;go_wp2_with (go_at_call 49;refine(CI.o _).mono ?_;rintro e1 w2 ⟨rfl,rfl⟩)
         have hZ':=HZ.o.setP (p+k+1) (by omega) hk1;rw[show ((p+k+1:Nat):Int)=(p:Int)+((k:Int)+1) by omega]at hZ'
         go_step3
         refine⟨rfl,⟨p+k+1,br,sq,T,hZ',HN.o.below hZ'.bel,by rw[HG.o,HB1.o],_,_,_,_,_,_,_,_,_,_,_,_,_,_,_,_,_,_,_,_,_,_,_,_,_,_,_,_,_,_,_,_,_,_,_,_,_,_,_,_,_,_,_,_,_,_,_,_,_,_,_,_,_,_,_,_,_,_,_,_,_,_,_,_,_,_,_,_,_,_,_,rfl⟩,?_⟩;rw[SC.atOf_eq hZ',HMU.o];omega
       ·have t35:((c:Int)==35)=false:=by(rw[bf];omega)
        have hbl:SC.blank (U.at' s p)=false:=by(rw[HC.o];unfold SC.blank;rw[decide_eq_false_iff_not];omega)
        have h35:U.at' s p≠35:=by(rw[HC.o];exact k35)
        have CT:=hd (sctok_any w.heap.size w w' s p br sq T HZ.o HNN.o hp HS.o);cases ht:SC.tok s p br sq with
        |bad er=>
         have HF:=hd (SC.go_fault' hp hbl h35 ht);have her:=SC.tok_bad ht;have heN:(er !=0)=true:=by(rw[bne_iff_ne];omega)
         rw[ht]at CT;clear hbl h35 ht her;go_wp2_with (go_at_call 50;refine CT.o.mono ?_;rintro e1 w2 h;obtain⟨rfl,b',q',hz2⟩:=h;have HZ2:=hd hz2;have d1:=hz2.c1;clear hz2)
         go_region
         go_wp2;go_ret3;exact(by rw[HG.o,HF.o];exact⟨rfl,HZ2.o.bel.drew⟩)
        |ok kk n b' q'=>
         obtain⟨hn0,hn1,hgo⟩:=SC.go_tok' hp hbl h35 ht;have HB1:=hd hgo;have HN01:=hd (And.intro hn0 hn1);rw[ht]at CT;clear hbl h35 ht hgo hn0 hn1;go_wp2_with (go_at_call 50;refine CT.o.mono ?_;rintro e1 w2 h;obtain⟨rfl,hz2⟩:=h;have HZ2:=hd hz2;clear hz2)
         go_step3
         refine⟨rfl,⟨p+n,b',q',T++[⟨kk,s.extract p (p+n),p⟩],HZ2.o,HN.o.below HZ2.o.bel,by rw[HG.o,HB1.o,SC.Out.pre_pre],_,_,_,_,_,_,_,_,_,_,_,_,_,_,_,_,_,_,_,_,_,_,_,_,_,_,_,_,_,_,_,_,_,_,_,_,_,_,_,_,_,_,_,_,_,_,_,_,_,_,_,_,_,_,_,_,_,_,_,_,_,_,_,_,_,_,_,_,_,_,_,rfl⟩,?_⟩;rw[SC.atOf_eq HZ2.o,HMU.o];have:=HN01.o;omega
  ·obtain rfl:p=s.size:=by omega
   have hpe:((s.size:Int)==(s.size:Int))=true:=(by simp);have HB1:=hd (SC.go_done (s:=s) (p:=s.size) (br:=br) (sq:=sq) (Nat.le_refl _));go_wp2;go_ret3;have HE:Hd (SC.go s 0 false false=.ok T):=hd (by rw[HG.o,HB1.o,SC.Out.pre,List.append_nil]);exact(by rw[HE.o];exact⟨_,rfl,own_base HOW.o (Nat.le_succ _),HBE.o⟩)
theorem scan_any (s:ByteArray)(w:World)(N:Nm2 w)(hs:s.size≤1125899906842624) :
  Calls prog 20 #[.string s] w fun e w'=>SC.ScanA w (SC.scan s) e w':=by
 by_cases h:s.size≤33554432
 ·unfold SC.scan
  rw[if_neg (by omega)];exact scan_go s w N h
 ·unfold SC.scan
  rw[if_pos (by omega)];have hsI:(33554432:Int)<(s.size:Int):=(by omega);clear N;go_enter func20,ntmps20;go_wp2
  go_step3
  go_wp2
  try simp only[Exit.noGoto_ret]
  go_ret3;exact⟨rfl,Below.refl _ _⟩
end YtieknenhfeejiaaGreatDoor
end Go.Proofs
namespace Go.Proofs.YtieknenhfeejiaaGreatDoor
open _root_.Go.Proofs.Tryz
open Go.RowKit
structure SC.Zl (z:Nat)(w0 w:World)(s:ByteArray)(p:Nat)(br sq:Bool)(T:List SC.Tk)(er:Int):Prop where
 ex:∃A n c,Bk w z 94 [.string s,.int .i64 (p:Int),.bool br,.bool sq,.slice A n c,.int .i64 er]∧w.ownsRow (z+1) 53 3 (.slice A n c) T.length (SC.cellsT T)∧n=T.length
 bel:Below z w0 w
 le:T.length≤p
 ps:p≤s.size
section
variable {z:Nat} {w0 w w':World} {s:ByteArray} {p:Nat} {br sq:Bool} {T:List SC.Tk} {er:Int}
theorem SC.Zl.lt (h:SC.Zl z w0 w s p br sq T er):z<w.heap.size:=by
 obtain⟨A,n,c,h1,_⟩:=h.ex;exact h1.lt
theorem SC.Zl.below (h:SC.Zl z w0 w s p br sq T er)(hb:Below w.heap.size w w'):SC.Zl z w0 w' s p br sq T er:=by
 obtain⟨A,n,c,h1,h2,h3⟩:=h.ex;exact⟨⟨A,n,c,h1.below hb,own_below h2 hb,h3⟩,h.bel.trans (hb.mono (Nat.le_of_lt h1.lt)),h.le,h.ps⟩
end
def SC.Tkc (w:World)(g k:Nat)(t:ByteArray)(p:Nat):Prop:=w.cell? ⟨g,0,none⟩=some (.int .i64 (k:Int))∧w.cell? ⟨g,1,none⟩=some (.string t)∧w.cell? ⟨g,2,none⟩=some (.int .i64 (p:Int))
theorem SC.Tkc.below {w w':World}{g k p:Nat}{t:ByteArray}(h:SC.Tkc w g k t p)(hb:Below w.heap.size w w'):SC.Tkc w' g k t p:=
 ⟨(hb.cell (p:=⟨g,0,none⟩) (World.block_lt_of_cell? w _ h.1)).trans h.1,(hb.cell (p:=⟨g,1,none⟩) (World.block_lt_of_cell? w _ h.2.1)).trans h.2.1,(hb.cell (p:=⟨g,2,none⟩) (World.block_lt_of_cell? w _ h.2.2)).trans h.2.2⟩
theorem SC.Tkc.alloc {w:World}{g k p:Nat}{t:ByteArray}(h:SC.Tkc w g k t p)(o:Obj):SC.Tkc (w.alloc o) g k t p:=h.below ((Below.refl _ _).alloc (Nat.le_refl _) _)
theorem SC.Tkc.grown {w w':World}{g k p:Nat}{t:ByteArray}{row:Option Nat}(h:SC.Tkc w g k t p)(hg:w.grownBy w' row)(hne:some g≠row):SC.Tkc w' g k t p:=by
 have hl:=World.block_lt_of_cell? w _ h.1;have e:∀j,w'.cell? ⟨g,j,none⟩=w.cell? ⟨g,j,none⟩:=fun j=>by
  have:=hg.block g hl hne;simp only[World.cell?,this]
 exact⟨(e 0).trans h.1,(e 1).trans h.2.1,(e 2).trans h.2.2⟩
theorem sctake_any (z:Nat)(w0 w:World)(s:ByteArray)(p n k:Nat)(br sq:Bool)(T:List SC.Tk)(er:Int)(Z:SC.Zl z w0 w s p br sq T er)(hn:0<n)(hpn:p+n≤s.size)(hs:s.size≤33554432) :
  Calls prog 91 #[.pointer (some ⟨z,0,none⟩),.int .i64 k,.int .i64 n] w fun e w'=>e=.returned (.tuple #[])∧SC.Zl z w0 w' s (p+n) br sq (T++[⟨k,s.extract p (p+n),p⟩]) er:=by
 have hlt:=Z.lt;obtain⟨A,n',c,h1,h2,rfl⟩:=Z.ex;have HB:=hd Z.bel;have hle:=Z.le;have c0:=h1.cell 0 (by simp);have c1:=h1.cell 1 (by simp);simp only[List.getElem_cons_zero,List.getElem_cons_succ]at c0 c1;have H1:=hd h1;have H2:=hd h2;clear h1 h2 Z;obtain⟨q,hq⟩:∃q,q=p+n:=⟨_,rfl⟩
 have hwp:IntKind.i64.wrap ((p:Int)+(n:Int))=(q:Int):=(by rw[IntKind.wrap_i64];omega);have hpq:(p:Int)≤(q:Int):=(by omega);have hqs:(q:Int)≤(s.size:Int):=(by omega);have HPN:=hd (show T.length≤p∧0<n∧q=p+n∧q≤s.size by omega);rw[←hq];clear hq hle hn hpn;go_enter func91,ntmps91;go_wp2_with fail
 go_region
 obtain⟨g,hg⟩:∃g,g=w.heap.size:=⟨_,rfl⟩
 obtain⟨wv,hwv⟩:∃wv,wv=(w.alloc (.cells #[.int .i64 (k:Int),.string (s.extract p q),.int .i64 (p:Int)] 53)).drew:=⟨_,rfl⟩
 have HBV:Hd (Below w.heap.size w wv):=hd (by rw[hwv];exact((Below.refl _ _).alloc (Nat.le_refl _) _).drew);have HT:Hd (SC.Tkc wv g k (s.extract p q) p):=hd (by
  have hh:=heap_alloc_new w (.cells #[.int .i64 (k:Int),.string (s.extract p q),.int .i64 (p:Int)] 53);rw[hwv,hg];exact⟨by show (w.alloc _).cell? _=_;rw[cell_of_row _ _ _ _ _ _ hh];rfl,by show (w.alloc _).cell? _=_;rw[cell_of_row _ _ _ _ _ _ hh];rfl,by show (w.alloc _).cell? _=_;rw[cell_of_row _ _ _ _ _ _ hh];rfl⟩)
 have HGR:Hd (some g≠(Value.slice A T.length c).ownBlock):=hd (fun e=>by have:=(H2.o.lt g e.symm).2;omega);replace H1:=hd (H1.o.below HBV.o);replace H2:=hd (own_below H2.o HBV.o);replace HB:=hd (HB.o.trans (HBV.o.mono (Nat.le_of_lt hlt)));rw[←hwv,←hg];clear c0 c1 hwv hg hlt HBV;go_wp2_with fail
 refine region_base fun base hbase=>?_
 have y0:base.eval (.tmp 0)=.pointer (some ⟨z,0,none⟩):=(by rw[hbase];rfl);have y6:base.eval (.tmp 6)=.pointer (some ⟨g,0,none⟩):=(by rw[hbase];rfl);have hsz:46≤base.tmps.size:=by rw[hbase];exact Nat.le_of_ble_eq_true rfl
 refine wp_region_app (by kernel_rfl) 6 7 10 [some 28,some 29,some 30,some 31,some 32,some 33,some 34,some 35,some 36,some 37,none] (by kernel_rfl) (by kernel_rfl) (by kernel_rfl) (by kernel_rfl) (by kernel_rfl) (by decide) (by decide) (by decide) (by exact Nat.le_of_ble_eq_true rfl) (by exact Nat.le_of_ble_eq_true rfl) [.pointer (some ⟨z,0,none⟩),.pointer (some ⟨z,0,none⟩),.pointer (some ⟨z,0,none⟩),.pointer (some ⟨z,4,none⟩),.slice A T.length c,.agg #[.int .i64 (k:Int),.string (s.extract p q),.int .i64 (p:Int)],.slice (some ⟨wv.heap.size,0,none⟩) 1 1,undef,.pointer (some ⟨z,0,none⟩),.pointer (some ⟨z,4,none⟩),undef] (fun w'=>Bk w' z 94 [.string s,.int .i64 (p:Int),.bool br,.bool sq,.slice A T.length c,.int .i64 er]∧w'.ownsRow (z+1) 53 3 (.slice A T.length c) T.length (SC.cellsT T)∧Below z w0 w'∧w'.heap.size=wv.heap.size∧SC.Tkc w' g k (s.extract p q) p) (fun w'=>Bk w' z 94 [.string s,.int .i64 (p:Int),.bool br,.bool sq,.slice A T.length c,.int .i64 er]∧w'.ownsRow (z+1) 53 3 (.slice A T.length c) T.length (SC.cellsT T)∧Below z w0 w'∧Bk w' wv.heap.size 53 [.int .i64 (k:Int),.string (s.extract p q),.int .i64 (p:Int)]∧SC.Tkc w' g k (s.extract p q) p) (fun w'=>w'.cell? ⟨z,4,none⟩=some (.slice A T.length c)∧SC.Tkc w' g k (s.extract p q) p) (fun v w'=>Bk w' z 94 [.string s,.int .i64 (p:Int),.bool br,.bool sq,.slice A T.length c,.int .i64 er]∧Below z w0 w'∧SC.Tkc w' g k (s.extract p q) p∧∃A' c',v=.slice A' (T.length+1) c'∧w'.ownsRow (z+1) 53 3 v (T.length+1) (SC.cellsT T++[.int .i64 (k:Int),.string (s.extract p q),.int .i64 (p:Int)])) (fun w' h=>⟨h.1.cell 4 (by simp),h.2.2.2.2⟩) (fun w' h=>⟨h.1.cell 4 (by simp),h.2.2.2.2⟩) (fun _ w' h=>⟨h.1.cell 4 (by simp),h.2.2.1⟩) ⟨H1.o.below (bel (Below.refl _ _) (Below.refl _ _).drew),own_below H2.o (Below.refl _ _).drew,HB.o.drew,rfl,HT.o⟩ ?_ ?_ ?_ ?_
 ·clear hbase
  intro i o ho hia hib hiL xs w' hK hV;have hi:i<11:=(Array.getElem?_eq_some_iff.1 ho).1;rcases (show i=0∨i=1∨i=2∨i=3∨i=4∨i=5∨i=6∨i=7∨i=8∨i=9∨i=10 by omega) with rfl|rfl|rfl|rfl|rfl|rfl|rfl|rfl|rfl|rfl|rfl
  ·obtain rfl:=Option.some.inj ho
   have z0:=(putL_miss [some 28,some 29,some 30,some 31,some 32,some 33,some 34,some 35,some 36,some 37,none] base xs 0 0 (by kernel_rfl)).trans y0;refine⟨by rfl,?_⟩;show _=Result.ok (Next.value (.pointer (some ⟨z,0,none⟩))) w'
   generalize (putL base [some 28,some 29,some 30,some 31,some 32,some 33,some 34,some 35,some 36,some 37,none] xs 0).eval=ev at *;simp[execOp,z0,go_sem]
  ·obtain rfl:=Option.some.inj ho
   have z0:=(putL_miss [some 28,some 29,some 30,some 31,some 32,some 33,some 34,some 35,some 36,some 37,none] base xs 0 0 (by kernel_rfl)).trans y0;refine⟨by rfl,?_⟩;show _=Result.ok (Next.value (.pointer (some ⟨z,0,none⟩))) w'
   generalize (putL base [some 28,some 29,some 30,some 31,some 32,some 33,some 34,some 35,some 36,some 37,none] xs 0).eval=ev at *;simp[execOp,z0,go_sem]
  ·obtain rfl:=Option.some.inj ho
   have x1:=putL_hit [some 28,some 29,some 30,some 31,some 32,some 33,some 34,some 35,some 36,some 37,none] base xs 0 1 29 (by rfl) (by kernel_rfl) (Nat.lt_of_lt_of_le (by decide) hsz);have e1:xs 1=.pointer (some ⟨z,0,none⟩):=hV ⟨1,.data⟩ (by simp) rfl (by decide);rw[Nat.zero_add,e1]at x1;refine⟨by rfl,?_⟩;show _=Result.ok (Next.value (.pointer (some ⟨z,0,none⟩))) w'
   generalize (putL base [some 28,some 29,some 30,some 31,some 32,some 33,some 34,some 35,some 36,some 37,none] xs 0).eval=ev at *;simp[execOp,x1,go_sem]
  ·obtain rfl:=Option.some.inj ho
   have x2:=putL_hit [some 28,some 29,some 30,some 31,some 32,some 33,some 34,some 35,some 36,some 37,none] base xs 0 2 30 (by rfl) (by kernel_rfl) (Nat.lt_of_lt_of_le (by decide) hsz);have e2:xs 2=.pointer (some ⟨z,0,none⟩):=hV ⟨2,.data⟩ (by simp) rfl (by decide);rw[Nat.zero_add,e2]at x2;refine⟨by rfl,?_⟩;show _=Result.ok (Next.value (.pointer (some ⟨z,4,none⟩))) w'
   generalize (putL base [some 28,some 29,some 30,some 31,some 32,some 33,some 34,some 35,some 36,some 37,none] xs 0).eval=ev at *;simp[execOp,x2,go_sem]
  ·obtain rfl:=Option.some.inj ho
   obtain⟨c4,t0,t1,t2⟩:=hK;have x3:=putL_hit [some 28,some 29,some 30,some 31,some 32,some 33,some 34,some 35,some 36,some 37,none] base xs 0 3 31 (by rfl) (by kernel_rfl) (Nat.lt_of_lt_of_le (by decide) hsz);have e3:xs 3=.pointer (some ⟨z,4,none⟩):=hV ⟨3,.data⟩ (by simp) rfl (by decide);rw[Nat.zero_add,e3]at x3;refine⟨by rfl,?_⟩;show _=Result.ok (Next.value (.slice A T.length c)) w'
   generalize (putL base [some 28,some 29,some 30,some 31,some 32,some 33,some 34,some 35,some 36,some 37,none] xs 0).eval=ev at *;simp[execOp,x3,c4,t0,t1,t2,go_sem]
  ·obtain rfl:=Option.some.inj ho
   obtain⟨c4,t0,t1,t2⟩:=hK;have z6:=(putL_miss [some 28,some 29,some 30,some 31,some 32,some 33,some 34,some 35,some 36,some 37,none] base xs 0 6 (by kernel_rfl)).trans y6;refine⟨by rfl,?_⟩;show _=Result.ok (Next.value (.agg #[.int .i64 (k:Int),.string (s.extract p q),.int .i64 (p:Int)])) w'
   generalize (putL base [some 28,some 29,some 30,some 31,some 32,some 33,some 34,some 35,some 36,some 37,none] xs 0).eval=ev at *;simp[execOp,z6,c4,t0,t1,t2,go_sem]
  ·exact absurd rfl hia
  ·exact absurd rfl hib
  ·obtain rfl:=Option.some.inj ho
   have x0:=putL_hit [some 28,some 29,some 30,some 31,some 32,some 33,some 34,some 35,some 36,some 37,none] base xs 0 0 28 (by rfl) (by kernel_rfl) (Nat.lt_of_lt_of_le (by decide) hsz);have e0:xs 0=.pointer (some ⟨z,0,none⟩):=hV ⟨0,.data⟩ (by simp) rfl (by decide);rw[Nat.zero_add,e0]at x0;refine⟨by rfl,?_⟩;show _=Result.ok (Next.value (.pointer (some ⟨z,0,none⟩))) w'
   generalize (putL base [some 28,some 29,some 30,some 31,some 32,some 33,some 34,some 35,some 36,some 37,none] xs 0).eval=ev at *;simp[execOp,x0,go_sem]
  ·obtain rfl:=Option.some.inj ho
   have x8:=putL_hit [some 28,some 29,some 30,some 31,some 32,some 33,some 34,some 35,some 36,some 37,none] base xs 0 8 36 (by rfl) (by kernel_rfl) (Nat.lt_of_lt_of_le (by decide) hsz);have e8:xs 8=.pointer (some ⟨z,0,none⟩):=hV ⟨8,.data⟩ (by simp) rfl (by decide);rw[Nat.zero_add,e8]at x8;refine⟨by rfl,?_⟩;show _=Result.ok (Next.value (.pointer (some ⟨z,4,none⟩))) w'
   generalize (putL base [some 28,some 29,some 30,some 31,some 32,some 33,some 34,some 35,some 36,some 37,none] xs 0).eval=ev at *;simp[execOp,x8,go_sem]
  ·exact absurd rfl hiL
 ·clear hbase
  intro o ho xs w' hM hV;obtain rfl:=Option.some.inj ho;have x5:=putL_hit [some 28,some 29,some 30,some 31,some 32,some 33,some 34,some 35,some 36,some 37,none] base xs 0 5 33 (by rfl) (by kernel_rfl) (Nat.lt_of_lt_of_le (by decide) hsz);have e5:xs 5=.agg #[.int .i64 (k:Int),.string (s.extract p q),.int .i64 (p:Int)]:=hV ⟨5,.data⟩ (by simp) rfl (by decide);rw[Nat.zero_add,e5]at x5;obtain⟨m1,m2,m3,m4,m5⟩:=hM;refine⟨w'.alloc (.cells #[.int .i64 (k:Int),.string (s.extract p q),.int .i64 (p:Int)] 53),⟨by rfl,?_⟩,?_⟩
  ·show _=Result.ok (Next.value (Value.slice (some ⟨wv.heap.size,0,none⟩) 1 1)) _
   rw[←m4];generalize (putL base [some 28,some 29,some 30,some 31,some 32,some 33,some 34,some 35,some 36,some 37,none] xs 0).eval=ev at *;simp[execOp,x5,go_sem]
  ·refine⟨m1.below ((Below.refl _ _).alloc (Nat.le_refl _) _),m2.alloc _,m3.alloc (Nat.le_of_lt m1.lt) _,?_,SC.Tkc.alloc m5 _⟩
   rw[←m4];exact heap_alloc_new w' _
 ·clear hbase
  intro o ho xs w' hM hV;obtain rfl:=Option.some.inj ho;have x4:=putL_hit [some 28,some 29,some 30,some 31,some 32,some 33,some 34,some 35,some 36,some 37,none] base xs 0 4 32 (by rfl) (by kernel_rfl) (Nat.lt_of_lt_of_le (by decide) hsz);have e4:xs 4=.slice A T.length c:=hV ⟨4,.data⟩ (by simp) rfl (by decide);rw[Nat.zero_add,e4]at x4;have x6:=putL_hit [some 28,some 29,some 30,some 31,some 32,some 33,some 34,some 35,some 36,some 37,none] base xs 0 6 34 (by rfl) (by kernel_rfl) (Nat.lt_of_lt_of_le (by decide) hsz)
  have e6:xs 6=.slice (some ⟨wv.heap.size,0,none⟩) 1 1:=hV ⟨6,.data⟩ (by simp) rfl (by decide);rw[Nat.zero_add,e6]at x6;obtain⟨m1,m2,m3,m4,m5⟩:=hM;obtain⟨i1,hi1,hz0,hz1,hz2⟩:=info_parts info_token;obtain⟨v',w'',hrun,h2,h3,_,h5⟩:=run_append_own_at (P:=prog) w' (z+1) 48 48 53 i1 _ 3 32 underlying48 hi1 hz0 hz1 hz2 rfl (by decide) (.slice A T.length c) T.length (SC.cellsT T) m2 ⟨wv.heap.size,0,none⟩ 1 1 [.int .i64 (k:Int),.string (s.extract p q),.int .i64 (p:Int)] rfl (by
   intro j u hj;rw[add_plain,Nat.zero_add,cell_of_row w' wv.heap.size j _ _ _ m4];simpa using hj) (by simp[Value.oneCell']) (by unfold maxLen;have:=HPN.o;omega) (by have:=HPN.o;omega) (by have:=m1.lt;omega)
  refine⟨v',w'',⟨by rfl,?_⟩,?_⟩
  ·generalize (putL base [some 28,some 29,some 30,some 31,some 32,some 33,some 34,some 35,some 36,some 37,none] xs 0).eval=ev at *
   unfold execOp;simp[resolve,invoke,builtin,Sem.run_bind,Sem.run_pure,Result.andThen_ok,x4,x6,hrun]
  ·obtain⟨A',c',rfl⟩:=own_shape h2
   exact⟨(h3.block z m1.lt (fun e=>by have:=(m2.lt z e.symm).1;omega)).trans m1,m3.grown h3 (Nat.le_of_lt m1.lt) (fun k hk=>by have:=(m2.lt k hk).1;omega),m5.grown h3 HGR.o,A',c',rfl,h2⟩
 ·intro xs w' hP hA
  have x9:=putL_hit [some 28,some 29,some 30,some 31,some 32,some 33,some 34,some 35,some 36,some 37,none] base xs 0 9 37 (by rfl) (by kernel_rfl) (Nat.lt_of_lt_of_le (by decide) hsz);have e9:xs 9=.pointer (some ⟨z,4,none⟩):=hA 9 (by exact Nat.le_of_ble_eq_true rfl) (by decide) (by decide);rw[Nat.zero_add,e9]at x9;have x7:=putL_hit [some 28,some 29,some 30,some 31,some 32,some 33,some 34,some 35,some 36,some 37,none] base xs 0 7 35 (by rfl) (by kernel_rfl) (Nat.lt_of_lt_of_le (by decide) hsz);rw[Nat.zero_add]at x7;obtain⟨m1,m3,m5,A',c',hv,m2⟩:=hP;rw[hv]at x7 m2;have k4:=m1.cell 4 (by simp)
  have f4:=m1.frozen 4;simp only[List.getElem_cons_zero,List.getElem_cons_succ]at k4;refine wpOp_void rfl rfl (w':=w'.setCell ⟨z,4,none⟩ (.slice A' (T.length+1) c')) ?_ ?_
  ·clear hbase
   generalize (putL base [some 28,some 29,some 30,some 31,some 32,some 33,some 34,some 35,some 36,some 37,none] xs 0).eval=ev at *;simp[execOp,x7,x9,go_sem,k4,f4]
  ·have HZ:=hd (m1.set 4 (.slice A' (T.length+1) c'))
   have HO:=hd (ownsRow_setCell_below m2 (a:=⟨z,4,none⟩) (Nat.lt_succ_self z) (.slice A' (T.length+1) c'));have HBZ:=hd (m3.setCell (p:=⟨z,4,none⟩) (Nat.le_refl z) (.slice A' (T.length+1) c'));rw[hbase];simp only[putL];clear hbase x7 x9 k4 f4 m1 m2 m3 m5 hv hA;generalize w'.setCell ⟨z,4,none⟩ (.slice A' (T.length+1) c')=wz at *;have d1:=HZ.o.cell 1 (by simp);have g1:=HZ.o.frozen 1;simp only[List.getElem_cons_zero,List.getElem_cons_succ,List.set_cons_succ,List.set_cons_zero]at d1 HZ;have HZ2:=hd (HZ.o.set 1 (.int .i64 (q:Int)))
   have HO2:=hd (ownsRow_setCell_below HO.o (a:=⟨z,1,none⟩) (Nat.lt_succ_self z) (.int .i64 (q:Int)));have HB2:=hd (HBZ.o.setCell (p:=⟨z,1,none⟩) (Nat.le_refl z) (.int .i64 (q:Int)));simp only[List.set_cons_succ,List.set_cons_zero]at HZ2
   go_simp
   go_wp2
   go_end0
   refine⟨rfl,⟨⟨A',T.length+1,c',HZ2.o,?_,by simp⟩,HB2.o,by have:=HPN.o;simp;omega,by have:=HPN.o;omega⟩⟩;rw[List.length_append,SC.cellsT_app];exact HO2.o
end Go.Proofs.YtieknenhfeejiaaGreatDoor
