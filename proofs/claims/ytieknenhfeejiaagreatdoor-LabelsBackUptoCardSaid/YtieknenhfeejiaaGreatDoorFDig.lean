/- internal/strconv.shortFloat at float64. internal/strconv.shortFloat at float6 .. -/
import Derived.Test.YtieknenhfeejiaaGreatDoorFPrs
import Derived.Test.YtieknenhfeejiaaGreatDoorBk
import Derived.Lib.ItoaMem
import Derived.Lib.ItoaLen
import Derived.LoopTactic
set_option linter.unusedVariables false
set_option linter.unusedSimpArgs false
namespace Go.Proofs.YtieknenhfeejiaaGreatDoor
open _root_.Go.Proofs.Tryz
open Go.RowKit
theorem allHi:((List.range 696).all fun i:Nat=>decide (9223372036854775808≤FS.hiOf ((i:Int)-348)))=true:=by decide +kernel
theorem hi_ge {p:Int}(h1 : -348≤p)(h2:p≤347):9223372036854775808≤FS.hiOf p:=by
 have h:=List.all_eq_true.1 allHi (p+348).toNat (List.mem_range.2 (by omega));rw[decide_eq_true_eq,show (((p+348).toNat:Nat):Int)-348=p by omega]at h;exact h
theorem lo_lt {p:Int}(h1 : -348≤p)(h2:p≤347):FS.loOf p<18446744073709551616:=(FS.rowOf h1 h2).hl
theorem ret_two {a b:Nat}{c d:Int}(h:a=b)(h2:c=d):Ending.returned (.tuple #[.int .u64 (a:Int),.int .i64 c])=.returned (.tuple #[.int .u64 (b:Int),.int .i64 d]):=by rw[h,h2]
theorem us_any (x u i s g:Nat)(w2 W:World)(hi:i<696)(hx:x<18446744073709551616)(hx0:4611686018427387904≤x)(hs:s≤63)(hu:FS.cut x (FS.hiOf ((i:Int)-348)) (FS.loOf ((i:Int)-348)) s=u)
  (c0:w2.cell? ⟨g,0,none⟩=some (.int .u64 (FS.hiOf ((i:Int)-348))))(c1:w2.cell? ⟨g,1,none⟩=some (.int .u64 (FS.loOf ((i:Int)-348))))(c2:w2.cell? ⟨g,2,none⟩=some (.int .i64 s))(hW:Below w2.heap.size w2 W) :
  Calls prog 208 #[.int .u64 x,.pointer (some ⟨g,0,none⟩)] W fun e w'=>e=.returned (.int .u64 u)∧Below W.heap.size W w':=by
 have hlt:=World.block_lt_of_cell? w2 _ c0;have hh:=hi_ge (p:=(i:Int)-348) (by omega) (by omega);have h:=uscale_any x (FS.hiOf ((i:Int)-348)) (FS.loOf ((i:Int)-348)) s g 0 W hx (FS.hi_lt (by omega) (by omega)) (lo_lt (by omega) (by omega)) (by
   have:4611686018427387904*9223372036854775808≤x*FS.hiOf ((i:Int)-348):=Nat.mul_le_mul hx0 hh;omega) hs ((hW.cell (p:=⟨g,0,none⟩) hlt).trans c0) ((hW.cell (p:=⟨g,1,none⟩) hlt).trans c1) ((hW.cell (p:=⟨g,2,none⟩) hlt).trans c2)
 rw[hu]at h;refine h.mono ?_;rintro e w' ⟨rfl,n,rfl⟩;exact⟨rfl,bel_drew (Below.refl _ _) n⟩
end Go.Proofs.YtieknenhfeejiaaGreatDoor
namespace Go.Proofs.YtieknenhfeejiaaGreatDoor
open _root_.Go.Proofs.Tryz
open Go.RowKit Go.Sort
end Go.Proofs.YtieknenhfeejiaaGreatDoor
