/- special, atof64exact, atof64, ParseFloat over a decimal lexeme that is a whol .. -/
import Derived.Test.YtieknenhfeejiaaGreatDoorFShow
import Derived.Test.YtieknenhfeejiaaGreatDoorPPref
set_option maxRecDepth 10000
set_option linter.unusedVariables false
set_option linter.unusedSimpArgs false
namespace Go.Proofs.YtieknenhfeejiaaGreatDoor
open _root_.Go.Proofs.Tryz
open Go.RowKit
structure Glb (w:World):Prop where
 opt:w.cell? ⟨5,0,none⟩=some (.bool true)
 mb:w.cell? ⟨6,0,none⟩=some (.int .u64 52)
 xb:w.cell? ⟨6,1,none⟩=some (.int .u64 11)
 bs:w.cell? ⟨6,2,none⟩=some (.int .i64 (-1023))
 k6:∃c t,w.heap[6]?=some (.cells c t (0,0))
 k5:∃c t,w.heap[4]?=some (.cells c t (0,0))
theorem Glb.below {w w':World}(h:Glb w)(hb:Below w.heap.size w w'):Glb w':=by
 have q:∀(g k:Nat) (v:Value),w.cell? ⟨g,k,none⟩=some v→w'.cell? ⟨g,k,none⟩=some v:=fun g k v hc=>by
  rw[hb.cell (p:=⟨g,k,none⟩) (World.block_lt_of_cell? w _ hc)];exact hc
 have k:∀g:Nat,(∃c t,w.heap[g]?=some (.cells c t (0,0)))→∃c t,w'.heap[g]?=some (.cells c t (0,0)):=fun g ⟨c,t,e⟩=>⟨c,t,(hb.block g (Array.getElem?_eq_some_iff.1 e).1).trans e⟩
 exact⟨q _ _ _ h.opt,q _ _ _ h.mb,q _ _ _ h.xb,q _ _ _ h.bs,k _ h.k6,k _ h.k5⟩
theorem special_no (s:ByteArray)(w:World)(h0:0<s.size)(hc:(s[0]'h0).toNat≠43∧(s[0]'h0).toNat≠45∧(s[0]'h0).toNat≠105∧(s[0]'h0).toNat≠73∧(s[0]'h0).toNat≠110∧(s[0]'h0).toNat≠78) :
  Calls prog 187 #[.string s] w fun e w'=>e=.returned (.tuple #[.float .f64 0,.int .i64 0,.bool false])∧w=w':=by
 have hne:¬ s=ByteArray.empty:=fun h=>by subst h;exact absurd h0 (by decide)
 have a1:(((s[0]'h0).toNat:Int)==43)=false:=(by rw[bf];omega);have a2:(((s[0]'h0).toNat:Int)==45)=false:=(by rw[bf];omega);have a3:(((s[0]'h0).toNat:Int)==105)=false:=(by rw[bf];omega);have a4:(((s[0]'h0).toNat:Int)==73)=false:=(by rw[bf];omega);have a5:(((s[0]'h0).toNat:Int)==110)=false:=(by rw[bf];omega);have a6:(((s[0]'h0).toNat:Int)==78)=false:=(by rw[bf];omega);clear hc;go_enter func187,ntmps187;go_wp2
 refine bodyPost_ret (v:=.tuple #[.float .f64 0,.int .i64 0,.bool false]) (by simp[results,Tryz.results187,go_sem]) rfl ⟨rfl,rfl⟩
theorem exact0_any (m:Nat)(w:World)(hm:m<4503599627370496)(G:Glb w) :
  Calls prog 198 #[.int .u64 (m:Int),.int .i64 0,.bool false] w fun e w'=>e=.returned (.tuple #[.float .f64 (floatOfInt .f64 (m:Int)),.bool true])∧w=w':=by
 have hmI:(m:Int)<4503599627370496:=(by omega);have g1:=G.mb;have q:((m:Int)/4503599627370496!=0)=false:=(by rw[bne_eq_false_iff_eq];omega);clear G;go_enter func198,ntmps198;go_wp2;go_ret2;exact⟨rfl,rfl⟩
theorem bool2_no (w:World):Calls prog 196 #[.bool false] w fun e w'=>e=.returned (.int .u64 0)∧w=w':=by
 go_enter func196,ntmps196;go_wp2;go_ret;exact⟨rfl,rfl⟩
theorem frombits_run (n:Nat)(w:World):(callFunc 197 #[.int .u64 n]).run prog w=.ok (.value (.float .f64 n)) w:=by
 rw[run_callFunc_extern func197 (e:=Extern.MathFloatBits.float64frombits) (by kernel_rfl) (by kernel_rfl) (by kernel_rfl) (by rfl)];rfl
end Go.Proofs.YtieknenhfeejiaaGreatDoor
