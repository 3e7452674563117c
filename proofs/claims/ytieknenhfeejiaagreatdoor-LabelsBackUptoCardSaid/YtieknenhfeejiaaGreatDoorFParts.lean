/- parts and Bits of the reference (weirref02/ref.go). -/
import Derived.Test.YtieknenhfeejiaaGreatDoorFShow
set_option maxRecDepth 100000
set_option maxHeartbeats 1000000
set_option linter.unusedVariables false
set_option linter.unusedSimpArgs false
namespace Go.Proofs.YtieknenhfeejiaaGreatDoor
open _root_.Go.Proofs.Tryz
open Go.RowKit
theorem parts_any (b:Nat)(w:World)(hb:b<9223372036854775808) :
  Calls prog 157 #[.int .u64 (b:Int)] w fun e w'=>e=.returned (.tuple #[.int .u64 (FS.mOf b:Int),.int .i64 (FS.eOf b)])∧w=w':=by
 have hb1:(b:Int)<9223372036854775808:=(by omega);have hq1:(b:Int)/4503599627370496<2048:=(by omega);have hq0:0≤(b:Int)/4503599627370496:=(by omega);by_cases c:FS.ex b=0
 ·have c0:=c
  unfold FS.ex at c;have hx:((b:Int)/4503599627370496==0)=true:=(by simp;omega);have e1:Hd (FS.mOf b=b∧FS.eOf b = -1074):=hd (by
   unfold FS.mOf FS.eOf FS.mt;rw[if_pos c0,if_pos c0];omega)
  clear c c0;go_enter func157,ntmps157;go_wp2;go_ret2;rw[e1.o.1,e1.o.2];exact⟨rfl,rfl⟩
 ·have c0:=c
  unfold FS.ex at c;have hx:((b:Int)/4503599627370496==0)=false:=(by simp;omega);have q1:=and_mt b (by omega);have q2:=or_mt b;have e1:Hd ((FS.mOf b:Int)=((FS.mt b+4503599627370496:Nat):Int)∧FS.eOf b=(b:Int)/4503599627370496-1075):=hd (by
   unfold FS.mOf FS.eOf;rw[if_neg c0,if_neg c0];unfold FS.ex;omega)
  clear c c0;go_enter func157,ntmps157;go_wp2;go_ret2;rw[e1.o.1,e1.o.2];exact⟨rfl,rfl⟩
end Go.Proofs.YtieknenhfeejiaaGreatDoor
