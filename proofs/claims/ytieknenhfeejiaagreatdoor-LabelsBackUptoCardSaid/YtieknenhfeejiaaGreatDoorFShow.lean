/- num.Show, for every float. -/
import Derived.Test.YtieknenhfeejiaaGreatDoorFTold
import Derived.Test.YtieknenhfeejiaaGreatDoorBase5
set_option linter.unusedVariables false
set_option linter.unusedSimpArgs false
namespace Go.Proofs.YtieknenhfeejiaaGreatDoor
open Go.RowKit
theorem and_2047 (f:Nat)(hf:f<18446744073709551616):bits .and .i64 ((f:Int)/4503599627370496) 2047=(FS.ex f:Int):=by
 have h:=bits_mask .i64 62 (by decide) (fun n h0 h1=>by rw[IntKind.wrap_i64];simp only[Int.reducePow]at h1;omega) 11 (by decide) ((f:Int)/4503599627370496) (by omega) (by simp only[Int.reducePow];omega);simp only[Int.reducePow,Int.reduceSub]at h;rw[h];unfold FS.ex;omega
theorem and_mt (f:Nat)(hf:f<18446744073709551616):bits .and .u64 (f:Int) 4503599627370495=(FS.mt f:Int):=by
 have h:=u64_and_nat f 4503599627370495 hf (by decide);rw[Nat.and_two_pow_sub_one_eq_mod f 52]at h;exact h
theorem or_mt (f:Nat):bits .or .u64 (FS.mt f:Int) 4503599627370496=((FS.mt f+4503599627370496:Nat):Int):=by
 have hm:FS.mt f<4503599627370496:=Nat.mod_lt _ (by decide);have h:=u64_or_nat (FS.mt f) 4503599627370496 (by omega) (by decide);rw[Nat.or_comm,nat_join 52 4503599627370496 (FS.mt f) (by decide) hm,Nat.add_comm]at h;exact h
theorem mOf_lt (f:Nat):FS.mOf f<9007199254740992:=by
 have:FS.mt f<4503599627370496:=Nat.mod_lt _ (by decide);unfold FS.mOf;split<;>omega
end Go.Proofs.YtieknenhfeejiaaGreatDoor
