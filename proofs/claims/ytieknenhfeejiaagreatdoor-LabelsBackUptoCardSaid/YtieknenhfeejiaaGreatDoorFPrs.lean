/- The small functions of the library's unrounded scaling. internal/strconv.usca .. -/
import Derived.Test.YtieknenhfeejiaaGreatDoorFBst
import Derived.Shelf.Lay
import Derived.Shelf.Bits.Mul64
import Derived.Shelf.Strconv.Itoa0
import Derived.Shelf.Strconv.Itoa1
import Derived.Shelf.Strconv.Itoa2
import Derived.Laws.BitsAllLaws
import Derived.Lib.LaidTab
import Derived.Lib.AppendIntMem
set_option maxHeartbeats 1000000
set_option maxRecDepth 100000
set_option linter.unusedVariables false
set_option linter.unusedSimpArgs false
namespace Go.Proofs
open Go.Shelf
shelf_lay Lays.n264 Nm 264 at Tryz as Tryz.laysN264
shelf_lay Lays.n129 Nm 129 at Tryz as Tryz.laysN129
shelf_lay LaysM.n284 Nm 284 at Tryz as Tryz.laysM284
shelf_lay Lays.n285 Nm 285 at Tryz as Tryz.laysN285
namespace YtieknenhfeejiaaGreatDoor
open _root_.Go.Proofs.Tryz
open Go.RowKit
theorem mul64_any (x y:Nat)(hx:x<18446744073709551616)(hy:y<18446744073709551616)(w:World) :
  Calls prog 217 #[.int .u64 x,.int .u64 y] w fun e w'=>e=.returned (.tuple #[.int .u64 ((x*y/18446744073709551616:Nat):Int),.int .u64 ((x*y%18446744073709551616:Nat):Int)])∧w'=w:=Any.bits_Mul64 Tryz.laysN264 x y hx hy w
theorem lp_any (x:Int)(h0 : -10000≤x)(h1:x≤10000)(w:World) :
  Calls prog 206 #[.int .i64 x] w fun e w'=>e=.returned (.int .i64 (FS.lp x))∧w'=w:=by
 go_enter func206,ntmps206;go_wp2;go_ret;exact⟨rfl,rfl⟩
theorem b2u_any (b:Bool)(w:World) :
  Calls prog 196 #[.bool b] w fun e w'=>e=.returned (.int .u64 (if b then 1 else 0))∧w'=w:=by
 cases b<;>(
  go_enter func196,ntmps196;go_wp2;go_ret;exact⟨rfl,rfl⟩)
theorem and1 (n:Nat)(h:n<18446744073709551616):bits .and .u64 (n:Int) 1=((n%2:Nat):Int):=by
 have:=u64_and_nat n 1 h (by decide);rw[nat_mask1]at this;exact this
theorem round_any (u:Nat)(h:u<18446744073709551614)(w:World) :
  Calls prog 212 #[.int .u64 u] w fun e w'=>e=.returned (.int .u64 (((u+1+u/4%2)/4:Nat):Int))∧w'=w:=by
 have ha:=and1 (u/4) (by omega);rw[show ((u/4:Nat):Int)=(u:Int)/4 by omega,show ((u/4%2:Nat):Int)=(u:Int)/4%2 by omega]at ha;have hb:0≤(u:Int)/4%2∧(u:Int)/4%2≤1:=(by omega);obtain⟨hb0,hb1⟩:=hb;go_enter func212,ntmps212;go_wp2;go_ret;refine⟨?_,rfl⟩;apply ret_int;omega
end YtieknenhfeejiaaGreatDoor
end Go.Proofs
namespace Go.Proofs.YtieknenhfeejiaaGreatDoor
open _root_.Go.Proofs.Tryz
open Go.RowKit
theorem and63_i64:∀s:Nat,s<64→bits .and .i64 (s:Int) 63=s:=by decide +kernel
theorem or_u64 (a b:Nat)(ha:a<18446744073709551616)(hb:b<18446744073709551616):bits .or .u64 (a:Int) (b:Int)=((a |||b:Nat):Int):=u64_or_nat a b ha hb
theorem uscale_any (x hi lo s b o:Nat)(w:World)(hx:x<18446744073709551616)(hh:hi<18446744073709551616)(hl:lo<18446744073709551616)(h1:18446744073709551616≤x*hi)(hs:s≤63)
  (c0:w.cell? ⟨b,o,none⟩=some (.int .u64 hi))(c1:w.cell? ⟨b,o+1,none⟩=some (.int .u64 lo))(c2:w.cell? ⟨b,o+2,none⟩=some (.int .i64 s)) :
  Calls prog 208 #[.int .u64 x,.pointer (some ⟨b,o,none⟩)] w fun e w'=>e=.returned (.int .u64 (FS.cut x hi lo s))∧∃n,w'=w.drewN n:=by
 have ha:=and63_i64 s (by omega);have M1:=hd (mul64_any x hi hx hh);have M2:=hd (mul64_any x lo hx hl);have hH0:1≤x*hi/18446744073709551616:=(by omega);have hH:x*hi/18446744073709551616<18446744073709551616:=by
  have:x*hi≤18446744073709551615*18446744073709551615:=Nat.mul_le_mul (by omega) (by omega);omega
 have hM:x*hi%18446744073709551616<18446744073709551616:=Nat.mod_lt _ (by decide);have hm:x*lo/18446744073709551616≤18446744073709551614:=by
  have:x*lo≤18446744073709551615*18446744073709551615:=Nat.mul_le_mul (by omega) (by omega);omega
 have hcut:Hd (FS.cut x hi lo s=(if x*hi/18446744073709551616/2^s*2^s≠x*hi/18446744073709551616 then x*hi/18446744073709551616/2^s |||1
  else(if x*hi%18446744073709551616<x*lo/18446744073709551616 then x*hi/18446744073709551616-1 else x*hi/18446744073709551616)/2^s |||(if 1<(x*hi%18446744073709551616+18446744073709551616-x*lo/18446744073709551616)%18446744073709551616 then 1 else 0))):=hd (by
  unfold FS.cut;simp only[Nat.reducePow];generalize x*hi/18446744073709551616=H;congr 1
  have:=Nat.div_add_mod H (2^s);rw[Nat.mul_comm]at this;apply propext
  constructor
  ·intro h e;rw[e]at this;omega
  ·intro h e;rw[e]at this;omega)
 clear h1;generalize x*hi/18446744073709551616=H at *;generalize x*hi%18446744073709551616=M at *;generalize x*lo/18446744073709551616=m at *;generalize x*lo%18446744073709551616=l2 at *;have hQ:H/2^s*2^s≤H:=Nat.div_mul_le_self _ _;have hQ2:H/2^s≤H:=Nat.div_le_self _ _;have hQ4:(H-1)/2^s≤H-1:=Nat.div_le_self _ _;have z1:((H:Int)/2^s)=((H/2^s:Nat):Int):=(by push_cast;rfl);have z2:(((H:Int)-1)/2^s)=(((H-1)/2^s:Nat):Int):=by
  rw[show (H:Int)-1=((H-1:Nat):Int) by omega];push_cast;rfl
 have z3:IntKind.u64.wrap ((H:Int)/2^s*2^s)=((H/2^s*2^s:Nat):Int):=by
  rw[show (H:Int)/2^s*2^s=((H/2^s*2^s:Nat):Int) by push_cast;rfl,IntKind.wrap_u64];omega
 have q3:bits .or .u64 ((H:Int)/2^s) 1=((H/2^s |||1:Nat):Int):=(by rw[z1];exact or_u64 (H/2^s) 1 (by omega) (by decide));have q6:bits .or .u64 ((H:Int)/2^s) 0=((H/2^s |||0:Nat):Int):=(by rw[z1];exact or_u64 (H/2^s) 0 (by omega) (by decide));have q5:bits .or .u64 (((H:Int)-1)/2^s) 1=(((H-1)/2^s |||1:Nat):Int):=(by rw[z2];exact or_u64 ((H-1)/2^s) 1 (by omega) (by decide));have hH0z:(1:Int)≤(H:Int):=(by omega);by_cases hz:H/2^s*2^s≠H
 ·rw[if_pos hz]at hcut
  have t1:(IntKind.u64.wrap ((H:Int)/2^s*2^s)!=(H:Int))=true:=(by rw[z3,bne_iff_ne];exact fun e=>hz (by exact_mod_cast e));clear q5 q6 hQ4 hz hQ z1 z2 z3 hQ2;generalize H/2^s |||1=r at *
  rw[hcut.o];clear hcut;go_enter func208,ntmps208;go_wp2_with (go_at_call 217;refine(M1.o _).mono ?_;rintro e w' ⟨rfl,rfl⟩)
  go_ret;exact⟨rfl,0,by simp[World.drewN_zero]⟩
 ·have hz2:H/2^s*2^s=H:=by omega
  rw[if_neg hz]at hcut;have t1:(IntKind.u64.wrap ((H:Int)/2^s*2^s)!=(H:Int))=false:=(by rw[z3,hz2];simp);clear hz hQ hz2 z1 z2 z3 hQ2;by_cases hc:M<m
  ·rw[if_pos hc,if_pos (by omega)]at hcut
   have hcz:(M:Int)<(m:Int):=(by omega);have hw:IntKind.u64.wrap ((M:Int)-(m:Int))=(M:Int)-m+18446744073709551616:=(by rw[IntKind.wrap_u64];omega);have hd1:(1:Int)<(M:Int)-m+18446744073709551616:=(by omega);clear q3 q6 hQ4 hc;generalize (H-1)/2^s |||1=r at *
   rw[hcut.o];clear hcut;go_enter func208,ntmps208;go_wp2_with fail
   refine(M1.o _).mono ?_;rintro e w' ⟨rfl,rfl⟩;go_wp2_with fail
   refine(M2.o _).mono ?_;rintro e w' ⟨rfl,rfl⟩;go_wp2_with (go_at_call 196;refine(b2u_any _ _).mono ?_;rintro e w' ⟨rfl,rfl⟩)
   go_quiet ((go_at_call 196;exact Calls.quiet_of_same (b2u_any _ _)))
   go_wp2;go_ret;exact⟨rfl,_,rfl⟩
  ·have hcz:¬ (M:Int)<(m:Int):=by omega
   have hcz2:(m:Int)≤(M:Int):=(by omega);rw[if_neg hc,show (M+18446744073709551616-m)%18446744073709551616=M-m by omega]at hcut;by_cases hD:1<M-m
   ·have hd1:(1:Int)<(M:Int)-m:=by omega
    rw[if_pos hD]at hcut;clear q5 q6 hQ4 hc hD;generalize H/2^s |||1=r at *
    rw[hcut.o];clear hcut;go_enter func208,ntmps208;go_wp2_with fail
    refine(M1.o _).mono ?_;rintro e w' ⟨rfl,rfl⟩;go_wp2_with fail
    refine(M2.o _).mono ?_;rintro e w' ⟨rfl,rfl⟩;go_wp2_with (go_at_call 196;refine(b2u_any _ _).mono ?_;rintro e w' ⟨rfl,rfl⟩)
    go_quiet ((go_at_call 196;exact Calls.quiet_of_same (b2u_any _ _)))
    go_wp2;go_ret;exact⟨rfl,_,rfl⟩
   ·have hd1:¬ (1:Int)<(M:Int)-m:=by omega
    rw[if_neg hD]at hcut;have hdd:decide ((1:Int)<(M:Int)-m)=false:=(by simpa using hd1);clear q5 q3 hQ4 hc hD hd1;generalize H/2^s |||0=r at *
    rw[hcut.o];clear hcut;go_enter func208,ntmps208;go_wp2_with fail
    refine(M1.o _).mono ?_;rintro e w' ⟨rfl,rfl⟩;go_wp2_with fail
    refine(M2.o _).mono ?_;rintro e w' ⟨rfl,rfl⟩;go_wp2_with (go_at_call 196;refine(b2u_any _ _).mono ?_;rintro e w' ⟨rfl,rfl⟩)
    go_quiet ((go_at_call 196;exact Calls.quiet_of_same (b2u_any _ _)))
    go_wp2;go_ret;exact⟨rfl,_,rfl⟩
end Go.Proofs.YtieknenhfeejiaaGreatDoor
namespace Go.Proofs.YtieknenhfeejiaaGreatDoor
open _root_.Go.Proofs.Tryz
open Go.RowKit
def powZ:List Int:=(List.range 696).flatMap fun i:Nat=>[(FS.hiOf ((i:Int)-348):Int),(FS.loOf ((i:Int)-348):Int)]
theorem flat2_len (f g:Nat→Int):∀n:Nat,((List.range n).flatMap fun i=>[f i,g i]).length=2*n
 |0=>rfl
 |n+1=>by rw[List.range_succ,List.flatMap_append,List.length_append,flat2_len f g n];simp;omega
theorem flat2_get (f g:Nat→Int):∀(n i:Nat),i<n→((List.range n).flatMap fun i=>[f i,g i])[2*i]?=some (f i)∧((List.range n).flatMap fun i=>[f i,g i])[2*i+1]?=some (g i):=by
 intro n;induction n with
 |zero=>intro i h;omega
 |succ n ih=>
  intro i h;have hl:=flat2_len f g n;rw[List.range_succ,List.flatMap_append];by_cases hi:i<n
  ·rw[List.getElem?_append_left (by omega),List.getElem?_append_left (by omega)]
   exact ih i hi
  ·obtain rfl:i=n:=by omega
   rw[List.getElem?_append_right (by omega),List.getElem?_append_right (by omega),hl];simp
theorem powZ_len:powZ.length=1392:=flat2_len _ _ 696
theorem g10_named : prog.globalNamed "internal/strconv.pow10Tab" = some 10 := by kernel_rfl
structure Tbl (w:World):Prop where
 p : Lib.TabIs prog w "internal/strconv.pow10Tab" .u64 powZ
 u : Lib.TabIs prog w "internal/strconv.uint64pow10" .u64 Lib.pow10Tab
theorem Tbl.below {w w':World}(h:Tbl w)(hb:Below w.heap.size w w'):Tbl w':=⟨Lib.tabBelow_of_tabIs h.p w' hb,Lib.tabBelow_of_tabIs h.u w' hb⟩
theorem Tbl.row {w:World}(h:Tbl w)(i:Nat)(hi:i<696):w.cell? ⟨10,i*2,none⟩=some (.int .u64 (FS.hiOf ((i:Int)-348)))∧w.cell? ⟨10,i*2+1,none⟩=some (.int .u64 (FS.loOf ((i:Int)-348))):=by
 obtain⟨a,b⟩:=flat2_get (fun i:Nat=>(FS.hiOf ((i:Int)-348):Int)) (fun i:Nat=>(FS.loOf ((i:Int)-348):Int)) 696 i hi;have h1:=h.p.cell g10_named (2*i) (by rw[powZ_len];omega);have h2:=h.p.cell g10_named (2*i+1) (by rw[powZ_len];omega);rw[List.getD_eq_getElem?_getD,show powZ[2*i]?=_ from a]at h1;rw[List.getD_eq_getElem?_getD,show powZ[2*i+1]?=_ from b]at h2;rw[show i*2=2*i by omega];exact⟨h1,h2⟩
theorem Tbl.lt {w:World}(h:Tbl w):10<w.heap.size:=World.block_lt_of_cell? w _ (h.row 0 (by decide)).1
theorem prescale_any (g i:Nat)(e lq:Int)(w:World)(hT:Tbl w)(hi:i<696)(hg:10<g)(u0 u1 u2:Value)
  (c0:w.cell? ⟨g,0,none⟩=some u0)(c1:w.cell? ⟨g,1,none⟩=some u1)(c2:w.cell? ⟨g,2,none⟩=some u2)
  (f0:w.frozen? ⟨g,0,none⟩=false)(f1:w.frozen? ⟨g,1,none⟩=false)(f2:w.frozen? ⟨g,2,none⟩=false)
  (he0 : -10000≤e)(he1:e≤10000)(hl0 : -10000≤lq)(hl1:lq≤10000) :
  Calls prog 207 #[.pointer (some ⟨g,0,none⟩),.int .i64 e,.int .i64 ((i:Int)-348),.int .i64 lq] w fun x w'=>x=.returned (.tuple #[])∧
   w'=((w.setCell ⟨g,0,none⟩ (.int .u64 (FS.hiOf ((i:Int)-348)))).setCell ⟨g,1,none⟩ (.int .u64 (FS.loOf ((i:Int)-348)))).setCell ⟨g,2,none⟩ (.int .i64 (-(e+lq+3))):=by
 obtain⟨r1,r2⟩:=hT.row i hi;have hi2:(i:Int)<696:=(by omega);have e1:(i:Int)-348 - -348=i:=(by omega);have hne:10≠g:=(by omega);generalize FS.hiOf ((i:Int)-348)=a at *;generalize FS.loOf ((i:Int)-348)=b at *;clear hT;go_enter func207,ntmps207;go_wp2
 go_end0
 exact⟨rfl,rfl⟩
end Go.Proofs.YtieknenhfeejiaaGreatDoor
