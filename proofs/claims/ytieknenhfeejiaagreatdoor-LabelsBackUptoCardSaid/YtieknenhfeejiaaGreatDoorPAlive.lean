/- num.word, num.small, num.Read at the texts that the laws' first lines ask (nu .. -/
import Derived.Test.YtieknenhfeejiaaGreatDoorPVal
import Derived.LaidEqlPtr
import Derived.Test.YtieknenhfeejiaaGreatDoorFDG
set_option maxRecDepth 10000
set_option linter.unusedVariables false
set_option linter.unusedSimpArgs false
namespace Go.Proofs.YtieknenhfeejiaaGreatDoor
open _root_.Go.Proofs.Tryz
open Go.RowKit
@[go_sem] theorem run_store_flt {P : Program} {w : World} {a : Addr} {m : Mode} (k : FloatKind) (b : Nat) : (store a (.float k b) m).run P w = stored P w a (.float k b) m := run_store P w a _ m rfl
theorem word_ne (s v:ByteArray)(w:World)(h:s.size≠v.size)(hs:s.size≤1125899906842624) :
  Calls prog 146 #[.string s,.string v] w fun e w'=>e=.returned (.bool false)∧w=w':=by
 have t:((s.size:Int)!=(v.size:Int))=true:=(by rw[bne_iff_ne];omega);clear h;go_enter func146,ntmps146;go_wp2;go_ret;exact⟨rfl,rfl⟩
theorem abs_any (n:Nat)(w:World)(h:bits .andNot .u64 (n:Int) 9223372036854775808=(n:Int)):Calls prog 167 #[.float .f64 n] w fun e w'=>e=.returned (.float .f64 n)∧w=w':=by
 have q1:=mbits_run n;have q2:=mfrom_run n;go_enter func167,ntmps167;go_wp2;go_ret;exact⟨rfl,rfl⟩
theorem ptr_ne {w:World}(G:Glb w):∀n,(binOp .eql 220 (.pointer (some ⟨6,0,none⟩)) (.pointer (some ⟨4,0,none⟩))).run prog (w.drewN n)=.ok (.bool false) (w.drewN n):=fun n=>by
 obtain⟨c6,t6,h6⟩:=G.k6;obtain⟨c5,t5,h5⟩:=G.k5;obtain⟨j,hj,hz⟩:∃j,prog.info? 222=some j∧j.size≠0:=by
  have h:(prog.info? 222).map (fun i=>i.size)=some 3:=(by kernel_rfl);cases e:prog.info? 222 with
  |none=>rw[e]at h;cases h
  |some j=>rw[e]at h;exact⟨j,rfl,by have:j.size=3:=Option.some.inj h;omega⟩
 exact run_eql_ptr_other (w.drewN n) (te:=222) underlying220 hj hz (by simp) (ca:=c6) (ta:=t6) (cb:=c5) (tb:=t5) h6 h5
theorem lower_at (c d:Nat)(w:World)(h:c<256)(hl:PF.low c=d) :
  Calls prog 204 #[.int .u8 c] w fun e w'=>e=.returned (.int .u8 (d:Int))∧w=w':=by
 rw[←hl];exact lower_any c w h
theorem low112 (w:World):Calls prog 204 #[.int .u8 112] w fun e w'=>e=.returned (.int .u8 112)∧w=w':=lower_at 112 112 w (by decide) (by decide)
end Go.Proofs.YtieknenhfeejiaaGreatDoor
namespace Go.Proofs.YtieknenhfeejiaaGreatDoor
open _root_.Go.Proofs.Tryz
namespace FS
end FS
end Go.Proofs.YtieknenhfeejiaaGreatDoor
namespace Go.Proofs.YtieknenhfeejiaaGreatDoor
open _root_.Go.Proofs.Tryz
open Go.RowKit
end Go.Proofs.YtieknenhfeejiaaGreatDoor
