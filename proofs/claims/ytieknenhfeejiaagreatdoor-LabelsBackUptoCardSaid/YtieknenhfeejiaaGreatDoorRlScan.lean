/- weirref11.at; (*weirref11.Lexer).operator, literal. (*weirref11.Lexer).name. .. -/
import Derived.Test.YtieknenhfeejiaaGreatDoorScScan
import Derived.Test.YtieknenhfeejiaaGreatDoorURefUnq
set_option maxHeartbeats 8000000
set_option maxRecDepth 100000
set_option linter.unusedVariables false
set_option linter.unusedSimpArgs false
namespace Go.Proofs.YtieknenhfeejiaaGreatDoor
open _root_.Go.Proofs.Tryz
open Go.RowKit
section
variable {z:Nat} {w0 w w':World} {s:ByteArray} {p:Nat} {br sq:Bool} {T:List SC.Tk} {er:Int}
theorem SC.Zl.c0 (h:SC.Zl z w0 w s p br sq T er):w.cell? ⟨z,0,none⟩=some (.string s):=by
 obtain⟨A,n,c,h1,_⟩:=h.ex;exact h1.cell 0 (by simp)
theorem SC.Zl.c1 (h:SC.Zl z w0 w s p br sq T er):w.cell? ⟨z,1,none⟩=some (.int .i64 (p:Int)):=by
 obtain⟨A,n,c,h1,_⟩:=h.ex;exact h1.cell 1 (by simp)
theorem SC.Zl.c2 (h:SC.Zl z w0 w s p br sq T er):w.cell? ⟨z,2,none⟩=some (.bool br):=by
 obtain⟨A,n,c,h1,_⟩:=h.ex;exact h1.cell 2 (by simp)
theorem SC.Zl.c3 (h:SC.Zl z w0 w s p br sq T er):w.cell? ⟨z,3,none⟩=some (.bool sq):=by
 obtain⟨A,n,c,h1,_⟩:=h.ex;exact h1.cell 3 (by simp)
theorem SC.Zl.c5 (h:SC.Zl z w0 w s p br sq T er):w.cell? ⟨z,5,none⟩=some (.int .i64 er):=by
 obtain⟨A,n,c,h1,_⟩:=h.ex;exact h1.cell 5 (by simp)
theorem SC.Zl.fz (h:SC.Zl z w0 w s p br sq T er)(j:Nat):w.frozen? ⟨z,j,none⟩=false:=by
 obtain⟨A,n,c,h1,_⟩:=h.ex;exact h1.frozen j
theorem SC.Zl.setB (h:SC.Zl z w0 w s p br sq T er)(b:Bool):SC.Zl z w0 (w.setCell ⟨z,2,none⟩ (.bool b)) s p b sq T er:=by
 obtain⟨A,n,c,h1,h2,h3⟩:=h.ex;exact⟨⟨A,n,c,by have:=h1.set 2 (.bool b);simpa using this,ownsRow_setCell_below h2 (a:=⟨z,2,none⟩) (Nat.lt_succ_self z) _,h3⟩,h.bel.setCell (p:=⟨z,2,none⟩) (Nat.le_refl z) _,h.le,h.ps⟩
theorem SC.Zl.setS (h:SC.Zl z w0 w s p br sq T er)(b:Bool):SC.Zl z w0 (w.setCell ⟨z,3,none⟩ (.bool b)) s p br b T er:=by
 obtain⟨A,n,c,h1,h2,h3⟩:=h.ex;exact⟨⟨A,n,c,by have:=h1.set 3 (.bool b);simpa using this,ownsRow_setCell_below h2 (a:=⟨z,3,none⟩) (Nat.lt_succ_self z) _,h3⟩,h.bel.setCell (p:=⟨z,3,none⟩) (Nat.le_refl z) _,h.le,h.ps⟩
theorem SC.Zl.setE (h:SC.Zl z w0 w s p br sq T er)(e:Int):SC.Zl z w0 (w.setCell ⟨z,5,none⟩ (.int .i64 e)) s p br sq T e:=by
 obtain⟨A,n,c,h1,h2,h3⟩:=h.ex;exact⟨⟨A,n,c,by have:=h1.set 5 (.int .i64 e);simpa using this,ownsRow_setCell_below h2 (a:=⟨z,5,none⟩) (Nat.lt_succ_self z) _,h3⟩,h.bel.setCell (p:=⟨z,5,none⟩) (Nat.le_refl z) _,h.le,h.ps⟩
theorem SC.Zl.setP (h:SC.Zl z w0 w s p br sq T er)(q:Nat)(hq:p≤q)(hs:q≤s.size):SC.Zl z w0 (w.setCell ⟨z,1,none⟩ (.int .i64 (q:Int))) s q br sq T er:=by
 obtain⟨A,n,c,h1,h2,h3⟩:=h.ex;exact⟨⟨A,n,c,by have:=h1.set 1 (.int .i64 (q:Int));simpa using this,ownsRow_setCell_below h2 (a:=⟨z,1,none⟩) (Nat.lt_succ_self z) _,h3⟩,h.bel.setCell (p:=⟨z,1,none⟩) (Nat.le_refl z) _,Nat.le_trans h.le hq,hs⟩
end
def SC.TokL (z:Nat)(w0:World)(s:ByteArray)(p:Nat)(T:List SC.Tk)(r:SC.R)(w':World):Prop:=
 match r with
 | .ok k n b q=>SC.Zl z w0 w' s (p+n) b q (T++[⟨k,s.extract p (p+n),p⟩]) 0
 | .bad er=>∃b q,SC.Zl z w0 w' s p b q T er
theorem rlat_any (s:ByteArray)(i:Nat)(w:World)(hs:s.size≤1125899906842624) :
  Calls prog 59 #[.string s,.int .i64 i] w fun e w'=>e=.returned (.int .u8 (U.at' s i:Int))∧w=w':=by
 by_cases h:i<s.size
 ·have hI:(i:Int)<(s.size:Int):=by omega
  have P:=hd (U.at_eq s i h);go_enter func59,ntmps59;go_wp2;go_ret;exact⟨by rw[P.o];rfl,rfl⟩
 ·have hI:¬ (i:Int)<(s.size:Int):=by omega
  have P:=hd (SC.at_out s i h);go_enter func59,ntmps59;go_wp2;go_ret;exact⟨by rw[P.o];rfl,rfl⟩
theorem SC.at_in {s:ByteArray}{i:Nat}(h:U.at' s i≠0):i<s.size:=by
 rcases Nat.lt_or_ge i s.size with h1|h1
 ·exact h1
 ·exact absurd (SC.at_out s i (by omega)) h
theorem rlop_any (z:Nat)(w0 w:World)(s:ByteArray)(p:Nat)(br sq:Bool)(T:List SC.Tk)(Z:SC.Zl z w0 w s p br sq T 0)(hp:p<s.size)(hs:s.size≤33554432) :
  Calls prog 62 #[.pointer (some ⟨z,0,none⟩)] w fun e w'=>e=.returned (.tuple #[])∧SC.TokL z w0 s p T (SC.opR (U.at' s p) (U.at' s (p+1)) br sq) w':=by
 have HZ:=hd Z;have b0:=Z.c0;have b1:=Z.c1;have CP1:=hd (fun (W:World) (b q:Bool) (hZ:SC.Zl z w0 W s p b q T 0)=>by have h:=sctake_any z w0 W s p 1 6 b q T 0 hZ (by omega) (by omega) hs;exact h);have CP2:=hd (fun (h2:p+1<s.size) (W:World) (b q:Bool) (hZ:SC.Zl z w0 W s p b q T 0)=>by have h:=sctake_any z w0 W s p 2 6 b q T 0 hZ (by omega) (by omega) hs;exact h);rw[show ((1:Nat):Int)=1 from rfl,show ((6:Nat):Int)=6 from rfl]at CP1;rw[show ((2:Nat):Int)=2 from rfl,show ((6:Nat):Int)=6 from rfl]at CP2
 have CA:=hd (fun q:BelW w=>by have h:=rlat_any s (p+1) q.w (by omega);rw[show ((p+1:Nat):Int)=(p:Int)+1 by omega]at h;exact h);have HIN:=hd (fun h=>SC.at_in (s:=s) (i:=p+1) h);have hwp:IntKind.i64.wrap ((p:Int)+1)=(p:Int)+1:=(by rw[IntKind.wrap_i64];omega);have hpI:(p:Int)<(s.size:Int):=(by omega);have hpN:p<s.size:=hp;obtain⟨c,hc⟩:∃c,(s[p]'hp).toNat=c:=⟨_,rfl⟩
 have HC:Hd (U.at' s p=c):=hd (by rw[U.at_eq s p hp];exact hc);obtain⟨d,HD⟩:∃d,Hd (U.at' s (p+1)=d):=⟨_,hd rfl⟩
 rw[HD.o]at CA HIN;have hc256:c<256:=(by rw[←hc];exact(s[p]'hp).toNat_lt);have hd256:d<256:=by
  by_cases h:p+1<s.size
  ·rw[←HD.o,U.at_eq s (p+1) h];exact(s[p+1]'h).toNat_lt
  ·rw[←HD.o,SC.at_out s (p+1) h];decide
 clear Z;go_enter func62,ntmps62;go_wp2_with fail
 refine wp_region_below (by kernel_rfl) (by kernel_rfl) ?_;have g0:=fun q:BelW w=>q.cell b0
 have g1:=fun q:BelW w=>q.cell b1
 repeat (go_big_quiet_step (first|(go_at_call 59;exact Calls.below_same (CA.o _))))
 refine wpQuiet_nil ?_;rintro w1 ⟨⟨_,hb1⟩,rfl⟩;replace HZ:=hd (HZ.o.below hb1);clear g0 g1 b0 b1 CA hb1 hwp hc;have b2:=HZ.o.c2;have b3:=HZ.o.c3;have b5:=HZ.o.c5;have f2:=HZ.o.fz 2;have f3:=HZ.o.fz 3;have f5:=HZ.o.fz 5;by_cases k123:c=123
 ·subst k123
  have HR:Hd (SC.opR 123 d br sq=.ok 6 1 true sq):=hd (by unfold SC.opR SC.two;simp);go_wp2_with (go_at_call 91;refine(CP1.o _ true _ (HZ.o.setB true)).mono ?_;rintro e w4 ⟨rfl,hz4⟩)
  first|(refine bodyPost_ret (results_none rfl _ _ _) rfl ?_)|go_end0
  exact⟨rfl,(by rw[HC.o,HD.o,HR.o];exact hz4)⟩
 ·have l123:((c:Int)==123)=false:=by(rw[bf];omega)
  by_cases k125:c=125
  ·subst k125
   have HR:Hd (SC.opR 125 d br sq=.ok 6 1 false sq):=hd (by unfold SC.opR SC.two;simp);go_wp2_with (go_at_call 91;refine(CP1.o _ false _ (HZ.o.setB false)).mono ?_;rintro e w4 ⟨rfl,hz4⟩)
   first|(refine bodyPost_ret (results_none rfl _ _ _) rfl ?_)|go_end0
   exact⟨rfl,(by rw[HC.o,HD.o,HR.o];exact hz4)⟩
  ·have l125:((c:Int)==125)=false:=by(rw[bf];omega)
   by_cases k91:c=91
   ·subst k91
    have HR:Hd (SC.opR 91 d br sq=.ok 6 1 br true):=hd (by unfold SC.opR SC.two;simp);go_wp2_with (go_at_call 91;refine(CP1.o _ _ true (HZ.o.setS true)).mono ?_;rintro e w4 ⟨rfl,hz4⟩)
    first|(refine bodyPost_ret (results_none rfl _ _ _) rfl ?_)|go_end0
    exact⟨rfl,(by rw[HC.o,HD.o,HR.o];exact hz4)⟩
   ·have l91:((c:Int)==91)=false:=by(rw[bf];omega)
    by_cases k93:c=93
    ·subst k93
     have HR:Hd (SC.opR 93 d br sq=.ok 6 1 br false):=hd (by unfold SC.opR SC.two;simp);go_wp2_with (go_at_call 91;refine(CP1.o _ _ false (HZ.o.setS false)).mono ?_;rintro e w4 ⟨rfl,hz4⟩)
     first|(refine bodyPost_ret (results_none rfl _ _ _) rfl ?_)|go_end0
     exact⟨rfl,(by rw[HC.o,HD.o,HR.o];exact hz4)⟩
    ·have l93:((c:Int)==93)=false:=by(rw[bf];omega)
     by_cases k40:c=40
     ·subst k40
      have HR:Hd (SC.opR 40 d br sq=.ok 6 1 br sq):=hd (by unfold SC.opR SC.two SC.single;simp);go_wp2_with (go_at_call 91;refine(CP1.o _ _ _ HZ.o).mono ?_;rintro e w4 ⟨rfl,hz4⟩)
      first|(refine bodyPost_ret (results_none rfl _ _ _) rfl ?_)|go_end0
      exact⟨rfl,(by rw[HC.o,HD.o,HR.o];exact hz4)⟩
     ·have l40:((c:Int)==40)=false:=by(rw[bf];omega)
      by_cases k41:c=41
      ·subst k41
       have HR:Hd (SC.opR 41 d br sq=.ok 6 1 br sq):=hd (by unfold SC.opR SC.two SC.single;simp);go_wp2_with (go_at_call 91;refine(CP1.o _ _ _ HZ.o).mono ?_;rintro e w4 ⟨rfl,hz4⟩)
       first|(refine bodyPost_ret (results_none rfl _ _ _) rfl ?_)|go_end0
       exact⟨rfl,(by rw[HC.o,HD.o,HR.o];exact hz4)⟩
      ·have l41:((c:Int)==41)=false:=by(rw[bf];omega)
       by_cases k44:c=44
       ·subst k44
        have HR:Hd (SC.opR 44 d br sq=.ok 6 1 br sq):=hd (by unfold SC.opR SC.two SC.single;simp);go_wp2_with (go_at_call 91;refine(CP1.o _ _ _ HZ.o).mono ?_;rintro e w4 ⟨rfl,hz4⟩)
        first|(refine bodyPost_ret (results_none rfl _ _ _) rfl ?_)|go_end0
        exact⟨rfl,(by rw[HC.o,HD.o,HR.o];exact hz4)⟩
       ·have l44:((c:Int)==44)=false:=by(rw[bf];omega)
        by_cases k58:c=58
        ·subst k58
         have HR:Hd (SC.opR 58 d br sq=.ok 6 1 br sq):=hd (by unfold SC.opR SC.two SC.single;simp);go_wp2_with (go_at_call 91;refine(CP1.o _ _ _ HZ.o).mono ?_;rintro e w4 ⟨rfl,hz4⟩)
         first|(refine bodyPost_ret (results_none rfl _ _ _) rfl ?_)|go_end0
         exact⟨rfl,(by rw[HC.o,HD.o,HR.o];exact hz4)⟩
        ·have l58:((c:Int)==58)=false:=by(rw[bf];omega)
         by_cases k43:c=43
         ·subst k43
          have HR:Hd (SC.opR 43 d br sq=.ok 6 1 br sq):=hd (by unfold SC.opR SC.two SC.single;simp);go_wp2_with (go_at_call 91;refine(CP1.o _ _ _ HZ.o).mono ?_;rintro e w4 ⟨rfl,hz4⟩)
          first|(refine bodyPost_ret (results_none rfl _ _ _) rfl ?_)|go_end0
          exact⟨rfl,(by rw[HC.o,HD.o,HR.o];exact hz4)⟩
         ·have l43:((c:Int)==43)=false:=by(rw[bf];omega)
          by_cases k45:c=45
          ·subst k45
           have HR:Hd (SC.opR 45 d br sq=.ok 6 1 br sq):=hd (by unfold SC.opR SC.two SC.single;simp);go_wp2_with (go_at_call 91;refine(CP1.o _ _ _ HZ.o).mono ?_;rintro e w4 ⟨rfl,hz4⟩)
           first|(refine bodyPost_ret (results_none rfl _ _ _) rfl ?_)|go_end0
           exact⟨rfl,(by rw[HC.o,HD.o,HR.o];exact hz4)⟩
          ·have l45:((c:Int)==45)=false:=by(rw[bf];omega)
           by_cases k42:c=42
           ·subst k42
            have HR:Hd (SC.opR 42 d br sq=.ok 6 1 br sq):=hd (by unfold SC.opR SC.two SC.single;simp);go_wp2_with (go_at_call 91;refine(CP1.o _ _ _ HZ.o).mono ?_;rintro e w4 ⟨rfl,hz4⟩)
            first|(refine bodyPost_ret (results_none rfl _ _ _) rfl ?_)|go_end0
            exact⟨rfl,(by rw[HC.o,HD.o,HR.o];exact hz4)⟩
           ·have l42:((c:Int)==42)=false:=by(rw[bf];omega)
            by_cases k47:c=47
            ·subst k47
             have HR:Hd (SC.opR 47 d br sq=.ok 6 1 br sq):=hd (by unfold SC.opR SC.two SC.single;simp);go_wp2_with (go_at_call 91;refine(CP1.o _ _ _ HZ.o).mono ?_;rintro e w4 ⟨rfl,hz4⟩)
             first|(refine bodyPost_ret (results_none rfl _ _ _) rfl ?_)|go_end0
             exact⟨rfl,(by rw[HC.o,HD.o,HR.o];exact hz4)⟩
            ·have l47:((c:Int)==47)=false:=by(rw[bf];omega)
             by_cases k37:c=37
             ·subst k37
              have HR:Hd (SC.opR 37 d br sq=.ok 6 1 br sq):=hd (by unfold SC.opR SC.two SC.single;simp);go_wp2_with (go_at_call 91;refine(CP1.o _ _ _ HZ.o).mono ?_;rintro e w4 ⟨rfl,hz4⟩)
              first|(refine bodyPost_ret (results_none rfl _ _ _) rfl ?_)|go_end0
              exact⟨rfl,(by rw[HC.o,HD.o,HR.o];exact hz4)⟩
             ·have l37:((c:Int)==37)=false:=by(rw[bf];omega)
              by_cases k94:c=94
              ·subst k94
               have HR:Hd (SC.opR 94 d br sq=.ok 6 1 br sq):=hd (by unfold SC.opR SC.two SC.single;simp);go_wp2_with (go_at_call 91;refine(CP1.o _ _ _ HZ.o).mono ?_;rintro e w4 ⟨rfl,hz4⟩)
               first|(refine bodyPost_ret (results_none rfl _ _ _) rfl ?_)|go_end0
               exact⟨rfl,(by rw[HC.o,HD.o,HR.o];exact hz4)⟩
              ·have l94:((c:Int)==94)=false:=by(rw[bf];omega)
               by_cases k64:c=64
               ·subst k64
                have HR:Hd (SC.opR 64 d br sq=.ok 6 1 br sq):=hd (by unfold SC.opR SC.two SC.single;simp);go_wp2_with (go_at_call 91;refine(CP1.o _ _ _ HZ.o).mono ?_;rintro e w4 ⟨rfl,hz4⟩)
                first|(refine bodyPost_ret (results_none rfl _ _ _) rfl ?_)|go_end0
                exact⟨rfl,(by rw[HC.o,HD.o,HR.o];exact hz4)⟩
               ·have l64:((c:Int)==64)=false:=by(rw[bf];omega)
                by_cases k61:c=61
                ·subst k61
                 by_cases d61:d=61
                 ·have h2:=HIN.o (by omega)
                  subst d61;have HR:Hd (SC.opR 61 61 br sq=.ok 6 2 br sq):=hd (by unfold SC.opR SC.two;simp);go_wp2_with (go_at_call 91;refine(CP2.o h2 _ _ _ HZ.o).mono ?_;rintro e w4 ⟨rfl,hz4⟩)
                  first|(refine bodyPost_ret (results_none rfl _ _ _) rfl ?_)|go_end0
                  exact⟨rfl,(by rw[HC.o,HD.o,HR.o];exact hz4)⟩
                 ·have n61:((d:Int)==61)=false:=by(rw[bf];omega)
                  have m61:((d:Int)!=61)=true:=by(rw[bne_iff_ne];omega)
                  by_cases d126:d=126
                  ·have h2:=HIN.o (by omega)
                   subst d126;have HR:Hd (SC.opR 61 126 br sq=.ok 6 2 br sq):=hd (by unfold SC.opR SC.two;simp);go_wp2_with (go_at_call 91;refine(CP2.o h2 _ _ _ HZ.o).mono ?_;rintro e w4 ⟨rfl,hz4⟩)
                   first|(refine bodyPost_ret (results_none rfl _ _ _) rfl ?_)|go_end0
                   exact⟨rfl,(by rw[HC.o,HD.o,HR.o];exact hz4)⟩
                  ·have n126:((d:Int)==126)=false:=by(rw[bf];omega)
                   have m126:((d:Int)!=126)=true:=by(rw[bne_iff_ne];omega)
                   have HR:Hd (SC.opR 61 d br sq=.ok 6 1 br sq):=hd (by unfold SC.opR SC.two SC.single;simp[d61,d126]);go_wp2_with (go_at_call 91;refine(CP1.o _ _ _ HZ.o).mono ?_;rintro e w4 ⟨rfl,hz4⟩)
                   first|(refine bodyPost_ret (results_none rfl _ _ _) rfl ?_)|go_end0
                   exact⟨rfl,(by rw[HC.o,HD.o,HR.o];exact hz4)⟩
                ·have l61:((c:Int)==61)=false:=by(rw[bf];omega)
                 by_cases k33:c=33
                 ·subst k33
                  by_cases d61:d=61
                  ·have h2:=HIN.o (by omega)
                   subst d61;have HR:Hd (SC.opR 33 61 br sq=.ok 6 2 br sq):=hd (by unfold SC.opR SC.two;simp);go_wp2_with (go_at_call 91;refine(CP2.o h2 _ _ _ HZ.o).mono ?_;rintro e w4 ⟨rfl,hz4⟩)
                   first|(refine bodyPost_ret (results_none rfl _ _ _) rfl ?_)|go_end0
                   exact⟨rfl,(by rw[HC.o,HD.o,HR.o];exact hz4)⟩
                  ·have n61:((d:Int)==61)=false:=by(rw[bf];omega)
                   have m61:((d:Int)!=61)=true:=by(rw[bne_iff_ne];omega)
                   by_cases d126:d=126
                   ·have h2:=HIN.o (by omega)
                    subst d126;have HR:Hd (SC.opR 33 126 br sq=.ok 6 2 br sq):=hd (by unfold SC.opR SC.two;simp);go_wp2_with (go_at_call 91;refine(CP2.o h2 _ _ _ HZ.o).mono ?_;rintro e w4 ⟨rfl,hz4⟩)
                    first|(refine bodyPost_ret (results_none rfl _ _ _) rfl ?_)|go_end0
                    exact⟨rfl,(by rw[HC.o,HD.o,HR.o];exact hz4)⟩
                   ·have n126:((d:Int)==126)=false:=by(rw[bf];omega)
                    have m126:((d:Int)!=126)=true:=by(rw[bne_iff_ne];omega)
                    have HR:Hd (SC.opR 33 d br sq=.bad 110):=hd (by unfold SC.opR SC.two SC.single;simp[d61,d126]);go_wp2
                    first|(refine bodyPost_ret (results_none rfl _ _ _) rfl ?_)|go_end0
                    exact⟨rfl,(by rw[HC.o,HD.o,HR.o];exact⟨_,_,HZ.o.setE 110⟩)⟩
                 ·have l33:((c:Int)==33)=false:=by(rw[bf];omega)
                  by_cases k60:c=60
                  ·subst k60
                   by_cases d61:d=61
                   ·have h2:=HIN.o (by omega)
                    subst d61;have HR:Hd (SC.opR 60 61 br sq=.ok 6 2 br sq):=hd (by unfold SC.opR SC.two;simp);go_wp2_with (go_at_call 91;refine(CP2.o h2 _ _ _ HZ.o).mono ?_;rintro e w4 ⟨rfl,hz4⟩)
                    first|(refine bodyPost_ret (results_none rfl _ _ _) rfl ?_)|go_end0
                    exact⟨rfl,(by rw[HC.o,HD.o,HR.o];exact hz4)⟩
                   ·have n61:((d:Int)==61)=false:=by(rw[bf];omega)
                    have m61:((d:Int)!=61)=true:=by(rw[bne_iff_ne];omega)
                    have HR:Hd (SC.opR 60 d br sq=.ok 6 1 br sq):=hd (by unfold SC.opR SC.two SC.single;simp[d61]);go_wp2_with (go_at_call 91;refine(CP1.o _ _ _ HZ.o).mono ?_;rintro e w4 ⟨rfl,hz4⟩)
                    first|(refine bodyPost_ret (results_none rfl _ _ _) rfl ?_)|go_end0
                    exact⟨rfl,(by rw[HC.o,HD.o,HR.o];exact hz4)⟩
                  ·have l60:((c:Int)==60)=false:=by(rw[bf];omega)
                   by_cases k62:c=62
                   ·subst k62
                    by_cases d61:d=61
                    ·have h2:=HIN.o (by omega)
                     subst d61;have HR:Hd (SC.opR 62 61 br sq=.ok 6 2 br sq):=hd (by unfold SC.opR SC.two;simp);go_wp2_with (go_at_call 91;refine(CP2.o h2 _ _ _ HZ.o).mono ?_;rintro e w4 ⟨rfl,hz4⟩)
                     first|(refine bodyPost_ret (results_none rfl _ _ _) rfl ?_)|go_end0
                     exact⟨rfl,(by rw[HC.o,HD.o,HR.o];exact hz4)⟩
                    ·have n61:((d:Int)==61)=false:=by(rw[bf];omega)
                     have m61:((d:Int)!=61)=true:=by(rw[bne_iff_ne];omega)
                     have HR:Hd (SC.opR 62 d br sq=.ok 6 1 br sq):=hd (by unfold SC.opR SC.two SC.single;simp[d61]);go_wp2_with (go_at_call 91;refine(CP1.o _ _ _ HZ.o).mono ?_;rintro e w4 ⟨rfl,hz4⟩)
                     first|(refine bodyPost_ret (results_none rfl _ _ _) rfl ?_)|go_end0
                     exact⟨rfl,(by rw[HC.o,HD.o,HR.o];exact hz4)⟩
                   ·have l62:((c:Int)==62)=false:=by(rw[bf];omega)
                    have HR:Hd (SC.opR c d br sq=.bad 110):=hd (by unfold SC.opR SC.two SC.single;simp[k123,k125,k91,k93,k40,k41,k44,k58,k43,k45,k42,k47,k37,k94,k64,k61,k33,k60,k62]);go_wp2
                    first|(refine bodyPost_ret (results_none rfl _ _ _) rfl ?_)|go_end0
                    exact⟨rfl,(by rw[HC.o,HD.o,HR.o];exact⟨_,_,HZ.o.setE 110⟩)⟩
theorem rllit_any (z:Nat)(w0 w:World)(s:ByteArray)(p:Nat)(br sq:Bool)(T:List SC.Tk)(Z:SC.Zl z w0 w s p br sq T 0)(hp:p<s.size)(hs:s.size≤33554432)(hq:U.at' s p=34∨U.at' s p=39∨U.at' s p=96) :
  Calls prog 61 #[.pointer (some ⟨z,0,none⟩)] w fun e w'=>e=.returned (.tuple #[])∧SC.TokL z w0 s p T (SC.litK s p br sq) w':=by
 have HZ:=hd Z;have HS:=hd hs;have b0:=Z.c0;have b1:=Z.c1;have HLF:=hd (fun h=>SC.lit_facts hp hq h);obtain⟨le,ler,HLE⟩:∃le ler,Hd (U.literal s p=(le,ler)):=⟨_,_,hd rfl⟩
 have CA:=hd (fun q:BelW w=>by have h:=refLit_any s p q.w (by omega);rw[HLE.o]at h;exact h);rw[HLE.o]at HLF;clear Z hq;go_enter func61,ntmps61;go_wp2_with fail
 refine wp_region_below (by kernel_rfl) (by kernel_rfl) ?_;have g0:=fun q:BelW w=>q.cell b0
 have g1:=fun q:BelW w=>q.cell b1
 repeat (go_big_quiet_step (first|(go_at_call 66;exact Calls.below_same (CA.o _))))
 refine wpQuiet_nil ?_;rintro w1 ⟨⟨_,hb1⟩,rfl⟩;replace HZ:=hd (HZ.o.below hb1);clear g0 g1 b0 b1 CA hb1;by_cases he:ler=0
 ·subst he
  obtain⟨en,hen,hen1,hen2⟩:=HLF.o rfl;have hen0:le=(en:Int):=hen;subst hen0;have henp:(p:Int)≤(en:Int):=(by omega);have hens:(en:Int)≤(s.size:Int):=(by omega);obtain⟨uq,ue,HUE⟩:∃uq ue,Hd (U.unquote (s.extract p en)=(uq,ue)):=⟨_,_,hd rfl⟩
  have CU:=hd (fun q:BelW w1=>by have h:=refunq_any (s.extract p en) q.w (by rw[ByteArray.size_extract];have:=HS.o;omega);rw[HUE.o]at h;unfold strR at h;exact h);simp only at CU;have CPT:=hd (fun (W:World) (hZ:SC.Zl z w0 W s p br sq T 0)=>by have h:=sctake_any z w0 W s p (en-p) 5 br sq T 0 hZ (by omega) (by omega) HS.o;rw[show ((5:Nat):Int)=5 from rfl,show (((en-p:Nat):Nat):Int)=(en:Int)-(p:Int) by omega]at h;exact h);have d0:=HZ.o.c0;have d1:=HZ.o.c1;go_wp2_with fail
  refine wp_region_below (by kernel_rfl) (by kernel_rfl) ?_;have g0:=fun q:BelW w1=>q.cell d0
  have g1:=fun q:BelW w1=>q.cell d1
  repeat (go_big_quiet_step (first|(go_at_call 27;exact Calls.below_of (CU.o _))))
  refine wpQuiet_nil ?_;rintro w2 ⟨⟨_,hb2⟩,rfl⟩;have HZ2:=hd (HZ.o.below hb2);clear g0 g1 d0 d1 CU hb2;have d1:=HZ2.o.c1;have d5:=HZ2.o.c5;have f5:=HZ2.o.fz 5;by_cases hu:ue=0
  ·subst hu
   have HR:Hd (SC.litK s p br sq=.ok 5 (en-p) br sq):=hd (by unfold SC.litK;rw[HLE.o,Int.toNat_natCast,HUE.o,if_neg (by simp)]);go_wp2_with (go_at_call 91;refine(CPT.o _ HZ2.o).mono ?_;rintro e w4 ⟨rfl,hz4⟩)
   first|(refine bodyPost_ret (results_none rfl _ _ _) rfl ?_)|go_end0
   exact⟨rfl,(by rw[HR.o];exact hz4)⟩
  ·have huN:(ue !=0)=true:=by(rw[bne_iff_ne];exact hu)
   have HR:Hd (SC.litK s p br sq=.bad 111):=hd (by unfold SC.litK;rw[HLE.o,Int.toNat_natCast,HUE.o,if_pos (.inr hu)]);go_wp2
   first|(refine bodyPost_ret (results_none rfl _ _ _) rfl ?_)|go_end0
   exact⟨rfl,(by rw[HR.o];exact⟨_,_,HZ2.o.setE 111⟩)⟩
 ·have heF:(ler==0)=false:=by(rw[bf];exact he)
  have heN:(ler !=0)=true:=by(rw[bne_iff_ne];exact he)
  have HR:Hd (SC.litK s p br sq=.bad 111):=hd (by unfold SC.litK;rw[HLE.o,if_pos (.inl he)]);have d5:=HZ.o.c5;have f5:=HZ.o.fz 5;go_wp2
  first|(refine bodyPost_ret (results_none rfl _ _ _) rfl ?_)|go_end0
  exact⟨rfl,(by rw[HR.o];exact⟨_,_,HZ.o.setE 111⟩)⟩
end Go.Proofs.YtieknenhfeejiaaGreatDoor
namespace Go.Proofs.YtieknenhfeejiaaGreatDoor
open _root_.Go.Proofs.Tryz
open Go.RowKit
namespace SC
theorem nlen_lt:∀(b:Bool) (l:List UInt8) (k:Nat),k<L.nlen b l→∃h:k<l.length,L.nok b (l[k]'h)=true
 |b,[],k,h=>by rw[L.nlen_nil]at h;omega
 |b,c::l,k,h=>by
  cases hc:L.nok b c with
  |false=>rw[L.nlen_no hc]at h;omega
  |true=>
   rw[L.nlen_yes hc]at h;cases k with
   |zero=>exact⟨by simp,by simpa using hc⟩
   |succ k=>
    obtain⟨h1,h2⟩:=nlen_lt b l k (by omega);exact⟨by simp;omega,by simpa using h2⟩
theorem nlen_stop:∀(b:Bool) (l:List UInt8),∀h:L.nlen b l<l.length,L.nok b (l[L.nlen b l]'h)=false
 |b,[],h=>by simp at h
 |b,c::l,h=>by
  cases hc:L.nok b c with
  |false=>simp only[L.nlen_no hc,List.getElem_cons_zero];exact hc
  |true=>
   simp only[L.nlen_yes hc]at h ⊢;simp only[List.getElem_cons_succ];exact nlen_stop b l (by simpa using h)
theorem drop_at {s:ByteArray}{p k:Nat}(h:k<(s.data.toList.drop p).length):p+k<s.size∧(((s.data.toList.drop p)[k]'h).toNat=U.at' s (p+k)):=by
 have h':p+k<s.size:=(by rw[List.length_drop,←Lib.size_eq]at h;omega);refine⟨h',?_⟩;rw[U.at_eq s (p+k) h',List.getElem_drop];rfl
theorem nm_in {b:Bool}{s:ByteArray}{p k:Nat}(h:k<L.nlen b (s.data.toList.drop p)):p+k<s.size∧(L.ltr (U.at' s (p+k)) ||L.dgt (U.at' s (p+k)) ||(b && U.at' s (p+k)==58))=true:=by
 obtain⟨h1,h2⟩:=nlen_lt b _ k h;obtain⟨h3,h4⟩:=drop_at h1;refine⟨h3,?_⟩;unfold L.nok at h2;rw[h4]at h2;exact h2
theorem nm_out {b:Bool}{s:ByteArray}{p:Nat}(hp:p≤s.size):(L.ltr (U.at' s (p+L.nlen b (s.data.toList.drop p))) ||L.dgt (U.at' s (p+L.nlen b (s.data.toList.drop p))) ||(b && U.at' s (p+L.nlen b (s.data.toList.drop p))==58))=false:=by
 by_cases h:L.nlen b (s.data.toList.drop p)<(s.data.toList.drop p).length
 ·have h2:=nlen_stop b _ h
  obtain⟨h3,h4⟩:=drop_at h;unfold L.nok at h2;rw[h4]at h2;exact h2
 ·have h5:¬ p+L.nlen b (s.data.toList.drop p)<s.size:=by rw[List.length_drop,←Lib.size_eq]at h;omega
  rw[at_out s _ h5];cases b<;>decide
theorem any_step {s:ByteArray}{p k:Nat}(h:p+k<s.size):((s.data.toList.drop p).take (k+1)).any (fun c=>c.toNat==58)=(((s.data.toList.drop p).take k).any (fun c=>c.toNat==58) ||(U.at' s (p+k)==58)):=by
 have hk:k<(s.data.toList.drop p).length:=(by rw[List.length_drop,←Lib.size_eq];omega);obtain⟨_,h4⟩:=drop_at hk;rw[List.take_succ_eq_append_getElem hk,List.any_append];simp only[List.any_cons,List.any_nil,Bool.or_false,h4]
theorem inf3 {t:ByteArray}(_:t.size=3):(((lowS t).toList==[105,110,102]) ||((lowS t).toList==[110,97,110]))=isNum t.data.toList:=by
 have e:(lowS t).toList=t.data.toList.map lowU:=by
  unfold lowS;rw[ByteArray.toList_eq]
 rw[e];unfold isNum;rw[Bool.eq_iff_iff,Bool.or_eq_true,beq_iff_eq,beq_iff_eq,decide_eq_true_eq,map_low,map_low];rfl
theorem isNum_len {l:List UInt8}(h:l.length≠3):isNum l=false:=by
 unfold isNum;rw[decide_eq_false_iff_not];rintro (e|e)<;>exact h (by have:=congrArg List.length e;simpa using this)
end SC
theorem rlname_any (z:Nat)(w0 w:World)(s:ByteArray)(p:Nat)(br sq:Bool)(T:List SC.Tk)(Z:SC.Zl z w0 w s p br sq T 0)(hp:p<s.size)(hs:s.size≤33554432)(hnm:SC.nameB (U.at' s p) br sq=true) :
  Calls prog 57 #[.pointer (some ⟨z,0,none⟩)] w fun e w'=>e=.returned (.tuple #[])∧SC.TokL z w0 s p T (SC.nameR (s.data.toList.drop p) br sq) w':=by
 have HZ0:=hd Z;have HS:=hd hs;have c2:=Z.c2;have c3:=Z.c3;obtain⟨cl,hcl⟩:∃cl,cl=(!br && !sq):=⟨_,rfl⟩
 obtain⟨nl,HNL⟩:∃nl,Hd (L.nlen cl (s.data.toList.drop p)=nl):=⟨_,hd rfl⟩
 have hnl:=L.nlen_le cl (s.data.toList.drop p);rw[HNL.o,List.length_drop,←Lib.size_eq]at hnl;have hnl0:0<nl:=by
  rw[←HNL.o];obtain⟨c,r,hd',hc',hr'⟩:=SC.at_drop s p hp;have hk:L.nok cl c=true:=by
   unfold SC.nameB at hnm;rw[←hcl]at hnm;unfold L.nok;rw[hc'];cases h1:L.ltr (U.at' s p) with
   |true=>rfl
   |false=>
    rw[h1,Bool.false_or,Bool.and_eq_true]at hnm;rw[hnm.1,hnm.2];simp
  rw[hd',L.nlen_yes hk];omega
 have HIN:=hd (fun k (h:k<nl)=>SC.nm_in (b:=cl) (s:=s) (p:=p) (k:=k) (by rw[HNL.o];exact h));have HOUT:=hd (SC.nm_out (b:=cl) (s:=s) (p:=p) (Nat.le_of_lt hp));rw[HNL.o]at HOUT;have HANY:=hd (fun k (h:p+k<s.size)=>SC.any_step (s:=s) (p:=p) (k:=k) h);have hsI:(s.size:Int)≤33554432:=(by omega);have hpI:(p:Int)+(nl:Int)≤(s.size:Int):=(by omega);have HR0:Hd (SC.nameR (s.data.toList.drop p) br sq=.ok (SC.nameK br ((s.data.toList.drop p).take nl)) nl br sq):=hd (by unfold SC.nameR;rw[←hcl,HNL.o]);have HCL:=hd hcl;clear Z hnm hs hnl hcl;go_enter func57,ntmps57;go_upto_region 0 with fail
 go_cut [2] from 6 to 17 (fun x2 wx=>x2=.bool cl∧Hd (SC.Zl z w0 wx s p br sq T 0))
 case first=>
  have hcl:=HCL.o;clear HCL HR0 HIN HOUT HNL HANY hsI hpI;cases br with
  |true=>
   obtain rfl:cl=false:=hcl;go_wp2;go_meet;exact⟨rfl,HZ0⟩
  |false=>
   have hcl2:cl = !sq:=(by rw[hcl];simp);clear hcl;subst hcl2;go_wp2;go_meet;exact⟨rfl,HZ0⟩
 case rest=>
  obtain⟨rfl,HZC⟩:=hcut;clear c2 c3;go_wp2;go_loopw [3,4] (fun x y wr=>∃(k:Nat) (cv:Bool),k≤nl∧x=.int .i64 k∧y=.bool cv∧Hd (((s.data.toList.drop p).take k).any (fun c=>c.toNat==58)=cv)∧Hd (SC.Zl z w0 wr s p br sq T 0)) (fun x _ _=>nl-(intOf x).toNat)
  case atStart=>exact⟨0,false,Nat.zero_le _,rfl,rfl,hd rfl,HZC⟩
  case round=>
   obtain⟨k,cv,hk,rfl,rfl,HCV,HZ⟩:=hrel;have c0:=HZ.o.c0;have c1:=HZ.o.c1;have hwp:IntKind.i64.wrap ((p:Int)+(k:Int))=(p:Int)+(k:Int):=(by rw[IntKind.wrap_i64];omega);obtain⟨c,HC⟩:∃c,Hd (U.at' s (p+k)=c):=⟨_,hd rfl⟩
   have hc256:c<256:=by
    rw[←HC.o];by_cases h:p+k<s.size
    ·rw[U.at_eq s (p+k) h];exact(s[p+k]'h).toNat_lt
    ·rw[SC.at_out s (p+k) h];decide
   have CA:=hd (fun q:BelW wr=>by have h:=rlat_any s (p+k) q.w (by have:=HS.o;omega);rw[HC.o,show ((p+k:Nat):Int)=(p:Int)+(k:Int) by omega]at h;exact h);by_cases hlt:k<nl
   ·obtain⟨hpk,hok⟩:=HIN.o k hlt
    rw[HC.o]at hok;have HNX:=hd (HANY.o k hpk);rw[HC.o,HCV.o]at HNX;have hpkI:(p:Int)+(k:Int)<(s.size:Int):=(by omega);have hpk0:(0:Int)≤(p:Int)+(k:Int):=(by omega);have hkI:(k:Int)≤33554431:=(by omega);have HKL:=hd hlt;have hcb:(s[p+k]'hpk).toNat=c:=(by rw[←U.at_eq s (p+k) hpk];exact HC.o);have HOK:=hd hok;clear hok;cases hl1:L.ltr c with
    |true=>
     have CL:=hd (fun q:BelW wr=>by have h:=refLetter_any c q.w hc256;rw[hl1]at h;exact h);clear HC;go_wp2_with fail
     refine wp_region_below (by kernel_rfl) (by kernel_rfl) ?_;have g0:=fun q:BelW wr=>q.cell c0
     have g1:=fun q:BelW wr=>q.cell c1
     repeat (go_big_quiet_step (first|(go_at_call 59;exact Calls.below_same (CA.o _))|(go_at_call 56;exact Calls.below_same (CL.o _))))
     refine wpQuiet_nil ?_;rintro w3 ⟨⟨_,hb3⟩,rfl⟩;have HZ3:=hd (HZ.o.below hb3);clear g0 g1 hb3;have d0:=HZ3.o.c0;have d1:=HZ3.o.c1;clear c0 c1;cases cv with
     |true=>
      go_wp2_with fail
      refine wp_region_below (by kernel_rfl) (by kernel_rfl) ?_;have g0:=fun q:BelW w3=>q.cell d0
      have g1:=fun q:BelW w3=>q.cell d1
      repeat (go_big_quiet_step (fail))
      refine wpQuiet_nil ?_;rintro w4 ⟨⟨_,hb4⟩,rfl⟩;have HZ4:=hd (HZ3.o.below hb4);clear g0 g1 hb4 d0 d1 hwp hcb hl1 hk hlt hnl0 hp hc256;go_wp2;go_roundw
      case rel=>exact⟨k+1,_,HKL.o,by go_num,rfl,hd (by rw[HNX.o];first|rfl|(rw[Bool.eq_iff_iff];simp;done)|(rw[Bool.eq_iff_iff];simp;omega)|(simp at t58 ⊢;omega)),HZ4⟩
      case measure=>have:=HKL.o;simp[intOf];omega
     |false=>
      go_wp2_with fail
      refine wp_region_below (by kernel_rfl) (by kernel_rfl) ?_;have g0:=fun q:BelW w3=>q.cell d0
      have g1:=fun q:BelW w3=>q.cell d1
      repeat (go_big_quiet_step (fail))
      refine wpQuiet_nil ?_;rintro w4 ⟨⟨_,hb4⟩,rfl⟩;have HZ4:=hd (HZ3.o.below hb4);clear g0 g1 hb4 d0 d1 hwp hcb hl1 hk hlt hnl0 hp hc256;go_wp2;go_roundw
      case rel=>exact⟨k+1,_,HKL.o,by go_num,rfl,hd (by rw[HNX.o];first|rfl|(rw[Bool.eq_iff_iff];simp;done)|(rw[Bool.eq_iff_iff];simp;omega)|(simp at t58 ⊢;omega)),HZ4⟩
      case measure=>have:=HKL.o;simp[intOf];omega
    |false=>
     cases hl2:L.dgt c with
     |true=>
      have CL:=hd (fun q:BelW wr=>by have h:=refLetter_any c q.w hc256;rw[hl1]at h;exact h);have CD:=hd (fun q:BelW wr=>by have h:=refDigit_any c q.w hc256;rw[hl2]at h;exact h);clear HC;go_wp2_with fail
      refine wp_region_below (by kernel_rfl) (by kernel_rfl) ?_;have g0:=fun q:BelW wr=>q.cell c0
      have g1:=fun q:BelW wr=>q.cell c1
      repeat (go_big_quiet_step (first|(go_at_call 59;exact Calls.below_same (CA.o _))|(go_at_call 56;exact Calls.below_same (CL.o _))|(go_at_call 58;exact Calls.below_same (CD.o _))))
      refine wpQuiet_nil ?_;rintro w3 ⟨⟨_,hb3⟩,rfl⟩;have HZ3:=hd (HZ.o.below hb3);clear g0 g1 hb3;have d0:=HZ3.o.c0;have d1:=HZ3.o.c1;clear c0 c1;cases cv with
      |true=>
       go_wp2_with fail
       refine wp_region_below (by kernel_rfl) (by kernel_rfl) ?_;have g0:=fun q:BelW w3=>q.cell d0
       have g1:=fun q:BelW w3=>q.cell d1
       repeat (go_big_quiet_step (fail))
       refine wpQuiet_nil ?_;rintro w4 ⟨⟨_,hb4⟩,rfl⟩;have HZ4:=hd (HZ3.o.below hb4);clear g0 g1 hb4 d0 d1 hwp hcb hl1 hk hlt hnl0 hp hc256;go_wp2;go_roundw
       case rel=>exact⟨k+1,_,HKL.o,by go_num,rfl,hd (by rw[HNX.o];first|rfl|(rw[Bool.eq_iff_iff];simp;done)|(rw[Bool.eq_iff_iff];simp;omega)|(simp at t58 ⊢;omega)),HZ4⟩
       case measure=>have:=HKL.o;simp[intOf];omega
      |false=>
       go_wp2_with fail
       refine wp_region_below (by kernel_rfl) (by kernel_rfl) ?_;have g0:=fun q:BelW w3=>q.cell d0
       have g1:=fun q:BelW w3=>q.cell d1
       repeat (go_big_quiet_step (fail))
       refine wpQuiet_nil ?_;rintro w4 ⟨⟨_,hb4⟩,rfl⟩;have HZ4:=hd (HZ3.o.below hb4);clear g0 g1 hb4 d0 d1 hwp hcb hl1 hk hlt hnl0 hp hc256;go_wp2;go_roundw
       case rel=>exact⟨k+1,_,HKL.o,by go_num,rfl,hd (by rw[HNX.o];first|rfl|(rw[Bool.eq_iff_iff];simp;done)|(rw[Bool.eq_iff_iff];simp;omega)|(simp at t58 ⊢;omega)),HZ4⟩
       case measure=>have:=HKL.o;simp[intOf];omega
     |false=>
      have h3:=HOK.o;rw[hl1,hl2]at h3;simp only[Bool.false_or,Bool.and_eq_true]at h3;obtain⟨rfl,h58⟩:=h3;have t58:((c:Int)==58)=true:=(by rw[beq_iff_eq.1 h58];rfl);clear h58;have CL:=hd (fun q:BelW wr=>by have h:=refLetter_any c q.w hc256;rw[hl1]at h;exact h);have CD:=hd (fun q:BelW wr=>by have h:=refDigit_any c q.w hc256;rw[hl2]at h;exact h);clear HC;go_wp2_with fail
      refine wp_region_below (by kernel_rfl) (by kernel_rfl) ?_;have g0:=fun q:BelW wr=>q.cell c0
      have g1:=fun q:BelW wr=>q.cell c1
      repeat (go_big_quiet_step (first|(go_at_call 59;exact Calls.below_same (CA.o _))|(go_at_call 56;exact Calls.below_same (CL.o _))|(go_at_call 58;exact Calls.below_same (CD.o _))))
      refine wpQuiet_nil ?_;rintro w3 ⟨⟨_,hb3⟩,rfl⟩;have HZ3:=hd (HZ.o.below hb3);clear g0 g1 hb3;have d0:=HZ3.o.c0;have d1:=HZ3.o.c1;clear c0 c1;cases cv with
      |true=>
       go_wp2_with fail
       refine wp_region_below (by kernel_rfl) (by kernel_rfl) ?_;have g0:=fun q:BelW w3=>q.cell d0
       have g1:=fun q:BelW w3=>q.cell d1
       repeat (go_big_quiet_step (fail))
       refine wpQuiet_nil ?_;rintro w4 ⟨⟨_,hb4⟩,rfl⟩;have HZ4:=hd (HZ3.o.below hb4);clear g0 g1 hb4 d0 d1 hwp hcb hl1 hk hlt hnl0 hp hc256;go_wp2;go_roundw
       case rel=>exact⟨k+1,_,HKL.o,by go_num,rfl,hd (by rw[HNX.o];first|rfl|(rw[Bool.eq_iff_iff];simp;done)|(rw[Bool.eq_iff_iff];simp;omega)|(simp at t58 ⊢;omega)),HZ4⟩
       case measure=>have:=HKL.o;simp[intOf];omega
      |false=>
       go_wp2_with fail
       refine wp_region_below (by kernel_rfl) (by kernel_rfl) ?_;have g0:=fun q:BelW w3=>q.cell d0
       have g1:=fun q:BelW w3=>q.cell d1
       repeat (go_big_quiet_step (fail))
       refine wpQuiet_nil ?_;rintro w4 ⟨⟨_,hb4⟩,rfl⟩;have HZ4:=hd (HZ3.o.below hb4);clear g0 g1 hb4 d0 d1 hwp hcb hl1 hk hlt hnl0 hp hc256;go_wp2;go_roundw
       case rel=>exact⟨k+1,_,HKL.o,by go_num,rfl,hd (by rw[HNX.o];first|rfl|(rw[Bool.eq_iff_iff];simp;done)|(rw[Bool.eq_iff_iff];simp;omega)|(simp at t58 ⊢;omega)),HZ4⟩
       case measure=>have:=HKL.o;simp[intOf];omega
   ·obtain rfl:nl=k:=by omega
    have ho:=HOUT.o;rw[HC.o]at ho;simp only[Bool.or_eq_false_iff]at ho;obtain⟨⟨hl1,hl2⟩,h3⟩:=ho;have CL:=hd (fun q:BelW wr=>by have h:=refLetter_any c q.w hc256;rw[hl1]at h;exact h);have CD:=hd (fun q:BelW wr=>by have h:=refDigit_any c q.w hc256;rw[hl2]at h;exact h);have CP1:=hd (fun (W:World) (hZ:SC.Zl z w0 W s p br sq T 0)=>by have h:=sctake_any z w0 W s p nl 1 br sq T 0 hZ hnl0 (by omega) HS.o;rw[show ((1:Nat):Int)=1 from rfl]at h;exact h)
    have CP2:=hd (fun (W:World) (hZ:SC.Zl z w0 W s p br sq T 0)=>by have h:=sctake_any z w0 W s p nl 2 br sq T 0 hZ hnl0 (by omega) HS.o;rw[show ((2:Nat):Int)=2 from rfl]at h;exact h);have CP3:=hd (fun (W:World) (hZ:SC.Zl z w0 W s p br sq T 0)=>by have h:=sctake_any z w0 W s p nl 3 br sq T 0 hZ hnl0 (by omega) HS.o;rw[show ((3:Nat):Int)=3 from rfl]at h;exact h);have HTL:Hd ((s.extract p (p+nl)).data.toList=(s.data.toList.drop p).take nl):=hd (SP.ext_list s p nl);have HTS:Hd ((s.extract p (p+nl)).size=nl):=hd (by rw[ByteArray.size_extract];omega);clear HC;cases cl with
    |true=>
     have h58:(c==58)=false:=(by simpa using h3);have t58:((c:Int)==58)=false:=by(rw[bf];rw[bf]at h58;omega)
     clear h58 h3;go_wp2_with fail
     refine wp_region_below (by kernel_rfl) (by kernel_rfl) ?_;have g0:=fun q:BelW wr=>q.cell c0
     have g1:=fun q:BelW wr=>q.cell c1
     repeat (go_big_quiet_step (first|(go_at_call 59;exact Calls.below_same (CA.o _))|(go_at_call 56;exact Calls.below_same (CL.o _))|(go_at_call 58;exact Calls.below_same (CD.o _))))
     refine wpQuiet_nil ?_;rintro w3 ⟨⟨_,hb3⟩,rfl⟩;have HZ3:=hd (HZ.o.below hb3);clear g0 g1 hb3;clear c0 c1 hwp hl1 hl2 CL CD CA;by_cases h3n:nl=3
     ·have h3I:((nl:Int)==3)=true:=by rw[h3n];rfl
      have HNUM:=hd (SC.inf3 (HTS.o.trans h3n));rw[HTL.o]at HNUM;obtain⟨q,hq⟩:∃q,q=p+nl:=⟨_,rfl⟩
      have hwq:IntKind.i64.wrap ((p:Int)+(nl:Int))=(q:Int):=(by rw[IntKind.wrap_i64];omega);have hpq:(p:Int)≤(q:Int):=(by omega);have hqs:(q:Int)≤(s.size:Int):=(by omega);rw[←hq]at HNUM;obtain⟨x,HX⟩:∃x,Hd (SC.lowS (s.extract p q)=x):=⟨_,hd rfl⟩
      have CS:=hd (fun y:BelW w3=>by have h:=scsmall_any (s.extract p q) y.w (by rw[ByteArray.size_extract];have:=HS.o;omega);rw[HX.o]at h;exact h);rw[HX.o]at HNUM;clear h3n hq;have d0:=HZ3.o.c0;have d1:=HZ3.o.c1;go_wp2_with fail
      refine wp_region_below (by kernel_rfl) (by kernel_rfl) ?_;have g0:=fun y:BelW w3=>y.cell d0
      have g1:=fun y:BelW w3=>y.cell d1
      repeat (go_big_quiet_step (first|(go_at_call 90;exact Calls.below_of (CS.o _))))
      refine wpQuiet_nil ?_;rintro w4 ⟨⟨_,hb4⟩,rfl⟩;have HZ4:=hd (HZ3.o.below hb4);clear g0 g1 hb4 d0 d1 hwq hpq hqs CS;have b2:=HZ4.o.c2;cases cv with
      |true=>
       have HK:Hd (SC.nameK br ((s.data.toList.drop p).take nl)=2):=hd (by unfold SC.nameK;rw[HCV.o];rfl);go_wp2_with (go_at_call 91;refine(CP2.o _ HZ4.o).mono ?_;rintro e5 w5 ⟨rfl,hz5⟩)
       first|(refine bodyPost_ret (results_none rfl _ _ _) rfl ?_)|go_end0
       exact⟨rfl,(by rw[HR0.o,HK.o];exact hz5)⟩
      |false=>
       cases br with
       |true=>
        have HK:Hd (SC.nameK true ((s.data.toList.drop p).take nl)=1):=hd (by unfold SC.nameK;rw[HCV.o];rfl);go_wp2_with (go_at_call 91;refine(CP1.o _ HZ4.o).mono ?_;rintro e5 w5 ⟨rfl,hz5⟩)
        first|(refine bodyPost_ret (results_none rfl _ _ _) rfl ?_)|go_end0
        exact⟨rfl,(by rw[HR0.o,HK.o];exact hz5)⟩
       |false=>
        cases ha1:(x.toList==[105,110,102]) with
        |true=>
         have HK:Hd (SC.nameK false ((s.data.toList.drop p).take nl)=3):=hd (by unfold SC.nameK;rw[HCV.o,←HNUM.o,ha1];rfl);go_wp2_with (go_at_call 91;refine(CP3.o _ HZ4.o).mono ?_;rintro e5 w5 ⟨rfl,hz5⟩)
         first|(refine bodyPost_ret (results_none rfl _ _ _) rfl ?_)|go_end0
         exact⟨rfl,(by rw[HR0.o,HK.o];exact hz5)⟩
        |false=>
         cases ha2:(x.toList==[110,97,110]) with
         |true=>
          have HK:Hd (SC.nameK false ((s.data.toList.drop p).take nl)=3):=hd (by unfold SC.nameK;rw[HCV.o,←HNUM.o,ha1,ha2];rfl);go_wp2_with (go_at_call 91;refine(CP3.o _ HZ4.o).mono ?_;rintro e5 w5 ⟨rfl,hz5⟩)
          first|(refine bodyPost_ret (results_none rfl _ _ _) rfl ?_)|go_end0
          exact⟨rfl,(by rw[HR0.o,HK.o];exact hz5)⟩
         |false=>
          have HK:Hd (SC.nameK false ((s.data.toList.drop p).take nl)=1):=hd (by unfold SC.nameK;rw[HCV.o,←HNUM.o,ha1,ha2];rfl);go_wp2_with (go_at_call 91;refine(CP1.o _ HZ4.o).mono ?_;rintro e5 w5 ⟨rfl,hz5⟩)
          first|(refine bodyPost_ret (results_none rfl _ _ _) rfl ?_)|go_end0
          exact⟨rfl,(by rw[HR0.o,HK.o];exact hz5)⟩
     ·have h3I:((nl:Int)==3)=false:=by(rw[bf];omega)
      have b2:=HZ3.o.c2;cases cv with
      |true=>
       have HK:Hd (SC.nameK br ((s.data.toList.drop p).take nl)=2):=hd (by unfold SC.nameK;rw[HCV.o];rfl);go_wp2_with (go_at_call 91;refine(CP2.o _ HZ3.o).mono ?_;rintro e5 w5 ⟨rfl,hz5⟩)
       first|(refine bodyPost_ret (results_none rfl _ _ _) rfl ?_)|go_end0
       exact⟨rfl,(by rw[HR0.o,HK.o];exact hz5)⟩
      |false=>
       cases br with
       |true=>
        have HK:Hd (SC.nameK true ((s.data.toList.drop p).take nl)=1):=hd (by unfold SC.nameK;rw[HCV.o];rfl);go_wp2_with (go_at_call 91;refine(CP1.o _ HZ3.o).mono ?_;rintro e5 w5 ⟨rfl,hz5⟩)
        first|(refine bodyPost_ret (results_none rfl _ _ _) rfl ?_)|go_end0
        exact⟨rfl,(by rw[HR0.o,HK.o];exact hz5)⟩
       |false=>
        have HK:Hd (SC.nameK false ((s.data.toList.drop p).take nl)=1):=hd (by unfold SC.nameK;rw[HCV.o,SC.isNum_len (by rw[←HTL.o,←Lib.size_eq,HTS.o];exact h3n)];rfl);go_wp2_with (go_at_call 91;refine(CP1.o _ HZ3.o).mono ?_;rintro e5 w5 ⟨rfl,hz5⟩)
        first|(refine bodyPost_ret (results_none rfl _ _ _) rfl ?_)|go_end0
        exact⟨rfl,(by rw[HR0.o,HK.o];exact hz5)⟩
    |false=>
     clear h3;go_wp2_with fail
     refine wp_region_below (by kernel_rfl) (by kernel_rfl) ?_;have g0:=fun q:BelW wr=>q.cell c0
     have g1:=fun q:BelW wr=>q.cell c1
     repeat (go_big_quiet_step (first|(go_at_call 59;exact Calls.below_same (CA.o _))|(go_at_call 56;exact Calls.below_same (CL.o _))|(go_at_call 58;exact Calls.below_same (CD.o _))))
     refine wpQuiet_nil ?_;rintro w3 ⟨⟨_,hb3⟩,rfl⟩;have HZ3:=hd (HZ.o.below hb3);clear g0 g1 hb3;clear c0 c1 hwp hl1 hl2 CL CD CA;by_cases h3n:nl=3
     ·have h3I:((nl:Int)==3)=true:=by rw[h3n];rfl
      have HNUM:=hd (SC.inf3 (HTS.o.trans h3n));rw[HTL.o]at HNUM;obtain⟨q,hq⟩:∃q,q=p+nl:=⟨_,rfl⟩
      have hwq:IntKind.i64.wrap ((p:Int)+(nl:Int))=(q:Int):=(by rw[IntKind.wrap_i64];omega);have hpq:(p:Int)≤(q:Int):=(by omega);have hqs:(q:Int)≤(s.size:Int):=(by omega);rw[←hq]at HNUM;obtain⟨x,HX⟩:∃x,Hd (SC.lowS (s.extract p q)=x):=⟨_,hd rfl⟩
      have CS:=hd (fun y:BelW w3=>by have h:=scsmall_any (s.extract p q) y.w (by rw[ByteArray.size_extract];have:=HS.o;omega);rw[HX.o]at h;exact h);rw[HX.o]at HNUM;clear h3n hq;have d0:=HZ3.o.c0;have d1:=HZ3.o.c1;go_wp2_with fail
      refine wp_region_below (by kernel_rfl) (by kernel_rfl) ?_;have g0:=fun y:BelW w3=>y.cell d0
      have g1:=fun y:BelW w3=>y.cell d1
      repeat (go_big_quiet_step (first|(go_at_call 90;exact Calls.below_of (CS.o _))))
      refine wpQuiet_nil ?_;rintro w4 ⟨⟨_,hb4⟩,rfl⟩;have HZ4:=hd (HZ3.o.below hb4);clear g0 g1 hb4 d0 d1 hwq hpq hqs CS;have b2:=HZ4.o.c2;cases cv with
      |true=>
       have HK:Hd (SC.nameK br ((s.data.toList.drop p).take nl)=2):=hd (by unfold SC.nameK;rw[HCV.o];rfl);go_wp2_with (go_at_call 91;refine(CP2.o _ HZ4.o).mono ?_;rintro e5 w5 ⟨rfl,hz5⟩)
       first|(refine bodyPost_ret (results_none rfl _ _ _) rfl ?_)|go_end0
       exact⟨rfl,(by rw[HR0.o,HK.o];exact hz5)⟩
      |false=>
       cases br with
       |true=>
        have HK:Hd (SC.nameK true ((s.data.toList.drop p).take nl)=1):=hd (by unfold SC.nameK;rw[HCV.o];rfl);go_wp2_with (go_at_call 91;refine(CP1.o _ HZ4.o).mono ?_;rintro e5 w5 ⟨rfl,hz5⟩)
        first|(refine bodyPost_ret (results_none rfl _ _ _) rfl ?_)|go_end0
        exact⟨rfl,(by rw[HR0.o,HK.o];exact hz5)⟩
       |false=>
        cases ha1:(x.toList==[105,110,102]) with
        |true=>
         have HK:Hd (SC.nameK false ((s.data.toList.drop p).take nl)=3):=hd (by unfold SC.nameK;rw[HCV.o,←HNUM.o,ha1];rfl);go_wp2_with (go_at_call 91;refine(CP3.o _ HZ4.o).mono ?_;rintro e5 w5 ⟨rfl,hz5⟩)
         first|(refine bodyPost_ret (results_none rfl _ _ _) rfl ?_)|go_end0
         exact⟨rfl,(by rw[HR0.o,HK.o];exact hz5)⟩
        |false=>
         cases ha2:(x.toList==[110,97,110]) with
         |true=>
          have HK:Hd (SC.nameK false ((s.data.toList.drop p).take nl)=3):=hd (by unfold SC.nameK;rw[HCV.o,←HNUM.o,ha1,ha2];rfl);go_wp2_with (go_at_call 91;refine(CP3.o _ HZ4.o).mono ?_;rintro e5 w5 ⟨rfl,hz5⟩)
          first|(refine bodyPost_ret (results_none rfl _ _ _) rfl ?_)|go_end0
          exact⟨rfl,(by rw[HR0.o,HK.o];exact hz5)⟩
         |false=>
          have HK:Hd (SC.nameK false ((s.data.toList.drop p).take nl)=1):=hd (by unfold SC.nameK;rw[HCV.o,←HNUM.o,ha1,ha2];rfl);go_wp2_with (go_at_call 91;refine(CP1.o _ HZ4.o).mono ?_;rintro e5 w5 ⟨rfl,hz5⟩)
          first|(refine bodyPost_ret (results_none rfl _ _ _) rfl ?_)|go_end0
          exact⟨rfl,(by rw[HR0.o,HK.o];exact hz5)⟩
     ·have h3I:((nl:Int)==3)=false:=by(rw[bf];omega)
      have b2:=HZ3.o.c2;cases cv with
      |true=>
       have HK:Hd (SC.nameK br ((s.data.toList.drop p).take nl)=2):=hd (by unfold SC.nameK;rw[HCV.o];rfl);go_wp2_with (go_at_call 91;refine(CP2.o _ HZ3.o).mono ?_;rintro e5 w5 ⟨rfl,hz5⟩)
       first|(refine bodyPost_ret (results_none rfl _ _ _) rfl ?_)|go_end0
       exact⟨rfl,(by rw[HR0.o,HK.o];exact hz5)⟩
      |false=>
       cases br with
       |true=>
        have HK:Hd (SC.nameK true ((s.data.toList.drop p).take nl)=1):=hd (by unfold SC.nameK;rw[HCV.o];rfl);go_wp2_with (go_at_call 91;refine(CP1.o _ HZ3.o).mono ?_;rintro e5 w5 ⟨rfl,hz5⟩)
        first|(refine bodyPost_ret (results_none rfl _ _ _) rfl ?_)|go_end0
        exact⟨rfl,(by rw[HR0.o,HK.o];exact hz5)⟩
       |false=>
        have HK:Hd (SC.nameK false ((s.data.toList.drop p).take nl)=1):=hd (by unfold SC.nameK;rw[HCV.o,SC.isNum_len (by rw[←HTL.o,←Lib.size_eq,HTS.o];exact h3n)];rfl);go_wp2_with (go_at_call 91;refine(CP1.o _ HZ3.o).mono ?_;rintro e5 w5 ⟨rfl,hz5⟩)
        first|(refine bodyPost_ret (results_none rfl _ _ _) rfl ?_)|go_end0
        exact⟨rfl,(by rw[HR0.o,HK.o];exact hz5)⟩
theorem SC.at_rest (s:ByteArray)(p k:Nat)(h:p≤s.size):U.at' (s.extract p s.size) k=U.at' s (p+k):=by
 have hr:=SC.rest_size s p h;by_cases hk:p+k<s.size
 ·have h':k<(s.extract p s.size).size:=by omega
  rw[U.at_eq _ k h',SC.rest_at s p k hk h']
 ·rw[SC.at_out s (p+k) hk,SC.at_out _ k (by omega)]
theorem rfread_val (t:ByteArray)(w:World)(hs:t.size≤1125899906842624):∃(b:Nat) (e:Int),RdOk t (rdTup b e)∧0≤e∧e≤21∧∀W:World,Calls prog 95 #[.string t] W fun x w'=>x=.returned (rdTup b e)∧Below W.heap.size W w':=by
 obtain⟨e,w',fr,h,_⟩:=rfread_any t w hs [];obtain⟨⟨v,hv,_⟩,_⟩:=h;obtain⟨b,er,rfl,_,h0,h1⟩:=hv.shape;refine⟨b,er,hv,h0,h1,fun W=>(rfread_any t W hs).mono ?_⟩;rintro x w'' ⟨⟨u,hu,rfl⟩,hb⟩;rw[hv.ext hu];exact⟨rfl,hb⟩
theorem rlnumS_any (z:Nat)(w0 w:World)(s:ByteArray)(p K D:Nat)(br sq:Bool)(T:List SC.Tk)(Z:SC.Zl z w0 w s p br sq T 0)(hp:p<s.size)(hs:s.size≤33554432)
  (hP:PN.pfx (s.data.toList.drop p)=D)(hK:(SP.M (s.data.toList.drop p) 0).1=K)(hlt:D<K) :
  Calls prog 60 #[.pointer (some ⟨z,0,none⟩)] w fun e w'=>e=.returned (.tuple #[])∧SC.TokL z w0 s p T (SC.number s p br sq) w':=by
 have HZ:=hd Z;have c0:=Z.c0;have c1:=Z.c1;have HNB:=hd (fun h=>SC.number_spanB (br:=br) (sq:=sq) hP hK hlt h);have HNG:=hd (fun h=>SC.number_spanG (br:=br) (sq:=sq) hP hK hlt h);have hps:(p:Int)≤(s.size:Int):=(by omega);have hrs:=SC.rest_size s p (by omega);have HRL:=hd (SC.rest_list s p (by omega));have hKr:K≤(s.extract p s.size).size:=by
  have h1:=SP.M_le (s.data.toList.drop p) 0;have h2:=SC.pfx_le (s.data.toList.drop p);rw[List.length_drop,←Lib.size_eq]at h1 h2;omega
 have hDr:D≤(s.extract p s.size).size:=by
  have h1:=SP.M_le (s.data.toList.drop p) 0;have h2:=SC.pfx_le (s.data.toList.drop p);rw[List.length_drop,←Lib.size_eq]at h1 h2;omega
 have HCUT:=hd (SC.rest_cut s p K (by omega));obtain⟨b,HB⟩:∃b,Hd (U.at' s (p+K)=b):=⟨_,hd rfl⟩
 have hb256:b<256:=by
  rw[←HB.o];by_cases h:p+K<s.size
  ·rw[U.at_eq s (p+K) h];exact(s[p+K]'h).toNat_lt
  ·rw[SC.at_out s (p+K) h];decide
 have CA:=hd (fun W:World=>by have h:=rlat_any (s.extract p s.size) K W (by omega);rw[SC.at_rest s p K (by omega),HB.o]at h;exact h);have C1:=hd (fun W:World=>by have h:=rfprefix_any (s.extract p s.size) W (by omega);rw[HRL.o,hP]at h;exact h);have C2:=hd (fun W:World=>by have h:=s3prefix_any (s.extract p s.size) W (by omega);rw[HRL.o,hK]at h;exact h);have CPT:=hd (fun (h0:0<K) (W:World) (hZ:SC.Zl z w0 W s p br sq T 0)=>by have h:=sctake_any z w0 W s p K 4 br sq T 0 hZ h0 (by omega) hs;exact h);rw[show ((4:Nat):Int)=4 from rfl]at CPT
 have C3:=hd (fun W:World=>s3parse_any ((s.extract p s.size).extract 0 K) W (by rw[HCUT.o,ByteArray.size_extract];omega));have HEL:Hd (((s.extract p s.size).extract 0 K).data.toList=(s.data.toList.drop p).take K):=hd (by rw[HCUT.o];exact SP.ext_list s p K);obtain⟨v,er,HVE,hve0,hve1⟩:∃(v er:Int),Hd (SP.val ((s.extract p s.size).extract 0 K).data.toList=v∧SP.err ((s.extract p s.size).extract 0 K).data.toList=er)∧-1≤er∧er≤200:=⟨_,_,hd ⟨rfl,rfl⟩,by unfold SP.err;split;omega;split;omega;split<;>omega,by unfold SP.err;split;omega;split;omega;split<;>omega⟩
 rw[HVE.o.1,HVE.o.2]at C3;have HER:Hd (SP.err ((s.data.toList.drop p).take K)=er):=hd (by rw[←HEL.o];exact HVE.o.2);clear Z hP hK;go_enter func60,ntmps60;go_wp2_with fail
 go_region
 obtain⟨w1,hw1⟩:∃w1,w1=w.drew:=⟨_,rfl⟩
 rw[←hw1];replace HZ:Hd (SC.Zl z w0 w1 s p br sq T 0):=hd (by rw[hw1];exact HZ.o.below (Below.refl _ _).drew);clear hw1 c0 c1;generalize hgr:s.extract p s.size=r at *;clear hgr HRL HEL HVE;have hKI:(K:Int)≤(r.size:Int):=(by omega);have hltI:(D:Int)<(K:Int):=(by omega);by_cases he:er=0
 ·subst he
  cases hl1:L.ltr b with
  |true=>
   have HR:Hd (SC.number s p br sq=.bad 112):=hd (HNB.o (.inl (by rw[HB.o];unfold SC.tail;rw[hl1];rfl)));go_wp2_with (first
    |(go_at_call 93;refine(C1.o _).mono ?_;rintro e1 w2 ⟨rfl,rfl⟩)
    |(go_at_call 92;refine(C2.o _).mono ?_;rintro e2 w3 ⟨rfl,rfl⟩)
    |(go_at_call 94;refine(C3.o _).mono ?_;rintro e5 w6 ⟨rfl,rfl⟩;have HZ6:=HZ;have d5:=HZ6.o.c5;have f5:=HZ6.o.fz 5)
    |(go_at_call 59;refine(CA.o _).mono ?_;rintro e3 w4 ⟨rfl,rfl⟩)
    |(go_at_call 56;refine(refLetter_any b _ hb256).mono ?_;rintro e3 w4 ⟨rfl,rfl⟩;rw[hl1]))
   first|(refine bodyPost_ret (results_none rfl _ _ _) rfl ?_)|go_end0
   exact⟨rfl,(by rw[HR.o];exact⟨_,_,HZ6.o.setE 112⟩)⟩
  |false=>
   cases hl2:L.dgt b with
   |true=>
    have HR:Hd (SC.number s p br sq=.bad 112):=hd (HNB.o (.inl (by rw[HB.o];unfold SC.tail;rw[hl1,hl2];rfl)));go_wp2_with (first
     |(go_at_call 93;refine(C1.o _).mono ?_;rintro e1 w2 ⟨rfl,rfl⟩)
     |(go_at_call 92;refine(C2.o _).mono ?_;rintro e2 w3 ⟨rfl,rfl⟩)
     |(go_at_call 94;refine(C3.o _).mono ?_;rintro e5 w6 ⟨rfl,rfl⟩;have HZ6:=HZ;have d5:=HZ6.o.c5;have f5:=HZ6.o.fz 5)
     |(go_at_call 59;refine(CA.o _).mono ?_;rintro e3 w4 ⟨rfl,rfl⟩)
     |(go_at_call 56;refine(refLetter_any b _ hb256).mono ?_;rintro e3 w4 ⟨rfl,rfl⟩;rw[hl1])
     |(go_at_call 58;refine(refDigit_any b _ hb256).mono ?_;rintro e4 w5 ⟨rfl,rfl⟩;rw[hl2]))
    first|(refine bodyPost_ret (results_none rfl _ _ _) rfl ?_)|go_end0
    exact⟨rfl,(by rw[HR.o];exact⟨_,_,HZ6.o.setE 112⟩)⟩
   |false=>
    by_cases hl3:b=46
    ·have HR:Hd (SC.number s p br sq=.bad 112):=hd (HNB.o (.inl (by rw[HB.o];unfold SC.tail;rw[hl1,hl2,hl3];rfl)))
     have hl4:((b:Int)==46)=true:=(by rw[hl3];rfl);clear hl3;go_wp2_with (first
      |(go_at_call 93;refine(C1.o _).mono ?_;rintro e1 w2 ⟨rfl,rfl⟩)
      |(go_at_call 92;refine(C2.o _).mono ?_;rintro e2 w3 ⟨rfl,rfl⟩)
      |(go_at_call 94;refine(C3.o _).mono ?_;rintro e5 w6 ⟨rfl,rfl⟩;have HZ6:=HZ;have d5:=HZ6.o.c5;have f5:=HZ6.o.fz 5)
      |(go_at_call 59;refine(CA.o _).mono ?_;rintro e3 w4 ⟨rfl,rfl⟩)
      |(go_at_call 56;refine(refLetter_any b _ hb256).mono ?_;rintro e3 w4 ⟨rfl,rfl⟩;rw[hl1])
      |(go_at_call 58;refine(refDigit_any b _ hb256).mono ?_;rintro e4 w5 ⟨rfl,rfl⟩;rw[hl2]))
     first|(refine bodyPost_ret (results_none rfl _ _ _) rfl ?_)|go_end0
     exact⟨rfl,(by rw[HR.o];exact⟨_,_,HZ6.o.setE 112⟩)⟩
    ·have HTL:Hd (SC.tail (U.at' s (p+K))=false):=hd (by rw[HB.o];unfold SC.tail;rw[hl1,hl2];simp;omega)
     have hl4:((b:Int)==46)=false:=by(rw[bf];omega)
     have HR:Hd (SC.number s p br sq=.ok 4 K br sq):=hd (HNG.o (by rintro (h|h);(rw[HTL.o]at h;cases h);(rw[HER.o]at h;exact h rfl)));have h0K:=(SC.tok_pos HR.o)
     go_wp2_with (first
      |(go_at_call 93;refine(C1.o _).mono ?_;rintro e1 w2 ⟨rfl,rfl⟩)
      |(go_at_call 92;refine(C2.o _).mono ?_;rintro e2 w3 ⟨rfl,rfl⟩)
      |(go_at_call 94;refine(C3.o _).mono ?_;rintro e5 w6 ⟨rfl,rfl⟩;have HZ6:=HZ;have d5:=HZ6.o.c5;have f5:=HZ6.o.fz 5)
      |(go_at_call 59;refine(CA.o _).mono ?_;rintro e3 w4 ⟨rfl,rfl⟩)
      |(go_at_call 56;refine(refLetter_any b _ hb256).mono ?_;rintro e3 w4 ⟨rfl,rfl⟩;rw[hl1])
      |(go_at_call 58;refine(refDigit_any b _ hb256).mono ?_;rintro e4 w5 ⟨rfl,rfl⟩;rw[hl2])
      |(go_at_call 91;refine(CPT.o h0K _ HZ6.o).mono ?_;rintro e6 w7 ⟨rfl,hz7⟩))
     first|(refine bodyPost_ret (results_none rfl _ _ _) rfl ?_)|go_end0
     exact⟨rfl,(by rw[HR.o];exact hz7)⟩
 ·have heI:(er==0)=false:=by(rw[bf];exact he)
  have heN:(er !=0)=true:=by(rw[bne_iff_ne];exact he)
  have HR:Hd (SC.number s p br sq=.bad 112):=hd (HNB.o (.inr (by rw[HER.o];exact he)));go_wp2_with (first
   |(go_at_call 93;refine(C1.o _).mono ?_;rintro e1 w2 ⟨rfl,rfl⟩)
   |(go_at_call 92;refine(C2.o _).mono ?_;rintro e2 w3 ⟨rfl,rfl⟩)
   |(go_at_call 94;refine(C3.o _).mono ?_;rintro e5 w6 ⟨rfl,rfl⟩;have HZ6:=HZ;have d5:=HZ6.o.c5;have f5:=HZ6.o.fz 5)
   |(go_at_call 59;refine(CA.o _).mono ?_;rintro e3 w4 ⟨rfl,rfl⟩))
  first|(refine bodyPost_ret (results_none rfl _ _ _) rfl ?_)|go_end0
  exact⟨rfl,(by rw[HR.o];exact⟨_,_,HZ6.o.setE 112⟩)⟩
theorem rlnumN_any (z:Nat)(w0 w:World)(s:ByteArray)(p K D:Nat)(br sq:Bool)(T:List SC.Tk)(Z:SC.Zl z w0 w s p br sq T 0)(hp:p<s.size)(hs:s.size≤33554432)
  (hP:PN.pfx (s.data.toList.drop p)=K)(hK:(SP.M (s.data.toList.drop p) 0).1=D)(hlt:¬ K<D) :
  Calls prog 60 #[.pointer (some ⟨z,0,none⟩)] w fun e w'=>e=.returned (.tuple #[])∧SC.TokL z w0 s p T (SC.number s p br sq) w':=by
 have HZ:=hd Z;have c0:=Z.c0;have c1:=Z.c1;have HNB:=hd (fun h=>SC.number_numB (br:=br) (sq:=sq) hP hK hlt h);have HNG:=hd (fun h=>SC.number_numG (br:=br) (sq:=sq) hP hK hlt h);have hps:(p:Int)≤(s.size:Int):=(by omega);have hrs:=SC.rest_size s p (by omega);have HRL:=hd (SC.rest_list s p (by omega));have hKr:K≤(s.extract p s.size).size:=by
  have h1:=SP.M_le (s.data.toList.drop p) 0;have h2:=SC.pfx_le (s.data.toList.drop p);rw[List.length_drop,←Lib.size_eq]at h1 h2;omega
 have hDr:D≤(s.extract p s.size).size:=by
  have h1:=SP.M_le (s.data.toList.drop p) 0;have h2:=SC.pfx_le (s.data.toList.drop p);rw[List.length_drop,←Lib.size_eq]at h1 h2;omega
 have HCUT:=hd (SC.rest_cut s p K (by omega));obtain⟨b,HB⟩:∃b,Hd (U.at' s (p+K)=b):=⟨_,hd rfl⟩
 have hb256:b<256:=by
  rw[←HB.o];by_cases h:p+K<s.size
  ·rw[U.at_eq s (p+K) h];exact(s[p+K]'h).toNat_lt
  ·rw[SC.at_out s (p+K) h];decide
 have CA:=hd (fun W:World=>by have h:=rlat_any (s.extract p s.size) K W (by omega);rw[SC.at_rest s p K (by omega),HB.o]at h;exact h);have C1:=hd (fun W:World=>by have h:=rfprefix_any (s.extract p s.size) W (by omega);rw[HRL.o,hP]at h;exact h);have C2:=hd (fun W:World=>by have h:=s3prefix_any (s.extract p s.size) W (by omega);rw[HRL.o,hK]at h;exact h);have CPT:=hd (fun (h0:0<K) (W:World) (hZ:SC.Zl z w0 W s p br sq T 0)=>by have h:=sctake_any z w0 W s p K 3 br sq T 0 hZ h0 (by omega) hs;exact h);rw[show ((3:Nat):Int)=3 from rfl]at CPT
 obtain⟨vb,er,hRd,hve0,hve1,C3a⟩:=rfread_val ((s.extract p s.size).extract 0 K) w (by rw[HCUT.o,ByteArray.size_extract];omega);have C3:=hd C3a;have HER:Hd (SC.numBad (s.extract p (p+K))↔er≠0):=hd (by rw[←HCUT.o];exact SC.numBad_iff hRd);unfold rdTup at C3;clear C3a hRd;clear Z hP hK;go_enter func60,ntmps60;go_wp2_with fail
 go_region
 obtain⟨w1,hw1⟩:∃w1,w1=w.drew:=⟨_,rfl⟩
 rw[←hw1];replace HZ:Hd (SC.Zl z w0 w1 s p br sq T 0):=hd (by rw[hw1];exact HZ.o.below (Below.refl _ _).drew);clear hw1 c0 c1;generalize hgr:s.extract p s.size=r at *;clear hgr HRL;have hKI:(K:Int)≤(r.size:Int):=(by omega);have hltI:(D:Int)≤(K:Int):=(by omega);by_cases he:er=0
 ·subst he
  cases hl1:L.ltr b with
  |true=>
   have HR:Hd (SC.number s p br sq=.bad 112):=hd (HNB.o (.inl (by rw[HB.o];unfold SC.tail;rw[hl1];rfl)));go_wp2_with (first
    |(go_at_call 93;refine(C1.o _).mono ?_;rintro e1 w2 ⟨rfl,rfl⟩)
    |(go_at_call 92;refine(C2.o _).mono ?_;rintro e2 w3 ⟨rfl,rfl⟩)
    |(go_at_call 95;refine(C3.o _).mono ?_;rintro e5 w6 ⟨rfl,hb6⟩;have HZ6:=hd (HZ.o.below hb6);have d5:=HZ6.o.c5;have f5:=HZ6.o.fz 5)
    |(go_at_call 59;refine(CA.o _).mono ?_;rintro e3 w4 ⟨rfl,rfl⟩)
    |(go_at_call 56;refine(refLetter_any b _ hb256).mono ?_;rintro e3 w4 ⟨rfl,rfl⟩;rw[hl1]))
   first|(refine bodyPost_ret (results_none rfl _ _ _) rfl ?_)|go_end0
   exact⟨rfl,(by rw[HR.o];exact⟨_,_,HZ6.o.setE 112⟩)⟩
  |false=>
   cases hl2:L.dgt b with
   |true=>
    have HR:Hd (SC.number s p br sq=.bad 112):=hd (HNB.o (.inl (by rw[HB.o];unfold SC.tail;rw[hl1,hl2];rfl)));go_wp2_with (first
     |(go_at_call 93;refine(C1.o _).mono ?_;rintro e1 w2 ⟨rfl,rfl⟩)
     |(go_at_call 92;refine(C2.o _).mono ?_;rintro e2 w3 ⟨rfl,rfl⟩)
     |(go_at_call 95;refine(C3.o _).mono ?_;rintro e5 w6 ⟨rfl,hb6⟩;have HZ6:=hd (HZ.o.below hb6);have d5:=HZ6.o.c5;have f5:=HZ6.o.fz 5)
     |(go_at_call 59;refine(CA.o _).mono ?_;rintro e3 w4 ⟨rfl,rfl⟩)
     |(go_at_call 56;refine(refLetter_any b _ hb256).mono ?_;rintro e3 w4 ⟨rfl,rfl⟩;rw[hl1])
     |(go_at_call 58;refine(refDigit_any b _ hb256).mono ?_;rintro e4 w5 ⟨rfl,rfl⟩;rw[hl2]))
    first|(refine bodyPost_ret (results_none rfl _ _ _) rfl ?_)|go_end0
    exact⟨rfl,(by rw[HR.o];exact⟨_,_,HZ6.o.setE 112⟩)⟩
   |false=>
    by_cases hl3:b=46
    ·have HR:Hd (SC.number s p br sq=.bad 112):=hd (HNB.o (.inl (by rw[HB.o];unfold SC.tail;rw[hl1,hl2,hl3];rfl)))
     have hl4:((b:Int)==46)=true:=(by rw[hl3];rfl);clear hl3;go_wp2_with (first
      |(go_at_call 93;refine(C1.o _).mono ?_;rintro e1 w2 ⟨rfl,rfl⟩)
      |(go_at_call 92;refine(C2.o _).mono ?_;rintro e2 w3 ⟨rfl,rfl⟩)
      |(go_at_call 95;refine(C3.o _).mono ?_;rintro e5 w6 ⟨rfl,hb6⟩;have HZ6:=hd (HZ.o.below hb6);have d5:=HZ6.o.c5;have f5:=HZ6.o.fz 5)
      |(go_at_call 59;refine(CA.o _).mono ?_;rintro e3 w4 ⟨rfl,rfl⟩)
      |(go_at_call 56;refine(refLetter_any b _ hb256).mono ?_;rintro e3 w4 ⟨rfl,rfl⟩;rw[hl1])
      |(go_at_call 58;refine(refDigit_any b _ hb256).mono ?_;rintro e4 w5 ⟨rfl,rfl⟩;rw[hl2]))
     first|(refine bodyPost_ret (results_none rfl _ _ _) rfl ?_)|go_end0
     exact⟨rfl,(by rw[HR.o];exact⟨_,_,HZ6.o.setE 112⟩)⟩
    ·have HTL:Hd (SC.tail (U.at' s (p+K))=false):=hd (by rw[HB.o];unfold SC.tail;rw[hl1,hl2];simp;omega)
     have hl4:((b:Int)==46)=false:=by(rw[bf];omega)
     have HR:Hd (SC.number s p br sq=.ok 3 K br sq):=hd (HNG.o (by rintro (h|h);(rw[HTL.o]at h;cases h);(exact(HER.o.1 h) rfl)));have h0K:=(SC.tok_pos HR.o)
     go_wp2_with (first
      |(go_at_call 93;refine(C1.o _).mono ?_;rintro e1 w2 ⟨rfl,rfl⟩)
      |(go_at_call 92;refine(C2.o _).mono ?_;rintro e2 w3 ⟨rfl,rfl⟩)
      |(go_at_call 95;refine(C3.o _).mono ?_;rintro e5 w6 ⟨rfl,hb6⟩;have HZ6:=hd (HZ.o.below hb6);have d5:=HZ6.o.c5;have f5:=HZ6.o.fz 5)
      |(go_at_call 59;refine(CA.o _).mono ?_;rintro e3 w4 ⟨rfl,rfl⟩)
      |(go_at_call 56;refine(refLetter_any b _ hb256).mono ?_;rintro e3 w4 ⟨rfl,rfl⟩;rw[hl1])
      |(go_at_call 58;refine(refDigit_any b _ hb256).mono ?_;rintro e4 w5 ⟨rfl,rfl⟩;rw[hl2])
      |(go_at_call 91;refine(CPT.o h0K _ HZ6.o).mono ?_;rintro e6 w7 ⟨rfl,hz7⟩))
     first|(refine bodyPost_ret (results_none rfl _ _ _) rfl ?_)|go_end0
     exact⟨rfl,(by rw[HR.o];exact hz7)⟩
 ·have heI:(er==0)=false:=by(rw[bf];exact he)
  have heN:(er !=0)=true:=by(rw[bne_iff_ne];exact he)
  have HR:Hd (SC.number s p br sq=.bad 112):=hd (HNB.o (.inr (HER.o.2 he)));go_wp2_with (first
   |(go_at_call 93;refine(C1.o _).mono ?_;rintro e1 w2 ⟨rfl,rfl⟩)
   |(go_at_call 92;refine(C2.o _).mono ?_;rintro e2 w3 ⟨rfl,rfl⟩)
   |(go_at_call 95;refine(C3.o _).mono ?_;rintro e5 w6 ⟨rfl,hb6⟩;have HZ6:=hd (HZ.o.below hb6);have d5:=HZ6.o.c5;have f5:=HZ6.o.fz 5)
   |(go_at_call 59;refine(CA.o _).mono ?_;rintro e3 w4 ⟨rfl,rfl⟩))
  first|(refine bodyPost_ret (results_none rfl _ _ _) rfl ?_)|go_end0
  exact⟨rfl,(by rw[HR.o];exact⟨_,_,HZ6.o.setE 112⟩)⟩
theorem rlnum_any (z:Nat)(w0 w:World)(s:ByteArray)(p:Nat)(br sq:Bool)(T:List SC.Tk)(Z:SC.Zl z w0 w s p br sq T 0)(hp:p<s.size)(hs:s.size≤33554432) :
  Calls prog 60 #[.pointer (some ⟨z,0,none⟩)] w fun e w'=>e=.returned (.tuple #[])∧SC.TokL z w0 s p T (SC.number s p br sq) w':=by
 by_cases h:PN.pfx (s.data.toList.drop p)<(SP.M (s.data.toList.drop p) 0).1
 ·exact rlnumS_any z w0 w s p _ _ br sq T Z hp hs rfl rfl h
 ·exact rlnumN_any z w0 w s p _ _ br sq T Z hp hs rfl rfl h
theorem SC.atOf_eql {z:Nat}{w0 w:World}{s:ByteArray}{p:Nat}{br sq:Bool}{T:List SC.Tk}{er:Int}(h:SC.Zl z w0 w s p br sq T er):SC.atOf z w=p:=by
 unfold SC.atOf;rw[h.c1];simp
theorem rlblank_any (z:Nat)(w0 w:World)(s:ByteArray)(p:Nat)(br sq:Bool)(T:List SC.Tk)(Z:SC.Zl z w0 w s p br sq T 0)(hs:s.size≤33554432) :
  Calls prog 55 #[.pointer (some ⟨z,0,none⟩)] w fun e w'=>e=.returned (.tuple #[])∧SC.Zl z w0 w' s (p+SC.bl false (s.data.toList.drop p)) br sq T 0:=by
 have HZ0:=hd Z;have hsI:(s.size:Int)≤33554432:=(by omega);clear Z;go_enter func55,ntmps55;go_wp2;go_loopw [2] (fun x wr=>∃(q:Nat) (rm:Bool),x=.bool rm∧Hd (SC.Zl z w0 wr s q br sq T 0)∧Hd (q+SC.bl rm (s.data.toList.drop q)=p+SC.bl false (s.data.toList.drop p))) (fun _ wr=>s.size-SC.atOf z wr)
 case atStart=>exact⟨p,false,rfl,HZ0,hd rfl⟩
 case round=>
  obtain⟨q,rm,rfl,HZ,HG⟩:=hrel;have hqs:=HZ.o.ps;have HMU:=hd (SC.atOf_eql HZ.o);have c0:=HZ.o.c0;have c1:=HZ.o.c1;go_wp2_with fail
  go_region
  obtain⟨w1,hw1⟩:∃w1,w1=wr.drew:=⟨_,rfl⟩
  rw[←hw1];have HZ1:Hd (SC.Zl z w0 w1 s q br sq T 0):=hd (by rw[hw1];exact HZ.o.below (Below.refl _ _).drew);clear hw1 c0 c1;by_cases hq:q<s.size
  ·have hqI:(q:Int)<(s.size:Int):=by omega
   obtain⟨c,hc⟩:∃c,(s[q]'hq).toNat=c:=⟨_,rfl⟩
   have hc256:c<256:=(by rw[←hc];exact(s[q]'hq).toNat_lt);have HDR:Hd (s.data.toList.drop q=s[q]'hq::s.data.toList.drop (q+1)):=hd (data_drop s q hq);rw[HDR.o]at HG;have d0:=HZ1.o.c0;have d1:=HZ1.o.c1;go_wp2_with fail
   go_region
   obtain⟨w2,hw2⟩:∃w2,w2=w1.drew:=⟨_,rfl⟩
   rw[←hw2];have HZ2:Hd (SC.Zl z w0 w2 s q br sq T 0):=hd (by rw[hw2];exact HZ1.o.below (Below.refl _ _).drew);clear hw2 d0 d1;have e1:=HZ2.o.c1;have f1:=HZ2.o.fz 1;have HNX:=hd (by have h:=HZ2.o.setP (q+1) (by omega) hq;rw[show ((q+1:Nat):Int)=(q:Int)+1 by omega]at h;exact h);by_cases k10:c=10
   ·subst k10
    have t10:(((s[q]'hq).toNat:Int)==10)=true:=(by rw[hc];rfl);cases rm with
    |true=>
     have HGN:Hd (q+1+SC.bl false (s.data.toList.drop (q+1))=p+SC.bl false (s.data.toList.drop p)):=hd (by have h:=HG.o;rw[SC.bl_nl hc]at h;omega);clear HG HDR;go_wp2;go_roundw
     case rel=>exact⟨q+1,false,rfl,HNX,HGN⟩
     case measure=>rw[SC.atOf_eql HNX.o,HMU.o];omega
    |false=>
     have HGN:Hd (q+1+SC.bl false (s.data.toList.drop (q+1))=p+SC.bl false (s.data.toList.drop p)):=hd (by have h:=HG.o;rw[SC.bl_blank (by rw[hc];rfl)]at h;omega);clear HG HDR;go_wp2;go_roundw
     case rel=>exact⟨q+1,false,rfl,HNX,HGN⟩
     case measure=>rw[SC.atOf_eql HNX.o,HMU.o];omega
   ·have t10:((c:Int)==10)=false:=by(rw[bf];omega)
    by_cases k35:c=35
    ·have t35:((c:Int)==35)=true:=by rw[k35];rfl
     have hck:=hc.trans k35;clear k35;cases rm with
     |true=>
      have HGN:Hd (q+1+SC.bl true (s.data.toList.drop (q+1))=p+SC.bl false (s.data.toList.drop p)):=hd (by have h:=HG.o;rw[SC.bl_in (by rw[hck];decide)]at h;omega);clear HG HDR;go_wp2;go_roundw
      case rel=>exact⟨q+1,true,rfl,HNX,HGN⟩
      case measure=>rw[SC.atOf_eql HNX.o,HMU.o];omega
     |false=>
      have HGN:Hd (q+1+SC.bl true (s.data.toList.drop (q+1))=p+SC.bl false (s.data.toList.drop p)):=hd (by have h:=HG.o;rw[SC.bl_hash hck]at h;omega);clear HG HDR;go_wp2;go_roundw
      case rel=>exact⟨q+1,true,rfl,HNX,HGN⟩
      case measure=>rw[SC.atOf_eql HNX.o,HMU.o];omega
    ·have t35:((c:Int)==35)=false:=by(rw[bf];omega)
     cases rm with
     |true=>
      have HGN:Hd (q+1+SC.bl true (s.data.toList.drop (q+1))=p+SC.bl false (s.data.toList.drop p)):=hd (by have h:=HG.o;rw[SC.bl_in (by rw[hc];exact k10)]at h;omega);clear HG HDR;go_wp2;go_roundw
      case rel=>exact⟨q+1,true,rfl,HNX,HGN⟩
      case measure=>rw[SC.atOf_eql HNX.o,HMU.o];omega
     |false=>
      by_cases k32:c=32
      ·subst k32
       have t32:(((s[q]'hq).toNat:Int)!=32)=false:=(by rw[hc];rfl);have HGN:Hd (q+1+SC.bl false (s.data.toList.drop (q+1))=p+SC.bl false (s.data.toList.drop p)):=hd (by have h:=HG.o;rw[SC.bl_blank (by rw[hc];rfl)]at h;omega);clear HG HDR;go_wp2;go_roundw
       case rel=>exact⟨q+1,false,rfl,HNX,HGN⟩
       case measure=>rw[SC.atOf_eql HNX.o,HMU.o];omega
      ·have t32:((c:Int)!=32)=true:=by(rw[bne_iff_ne];omega)
       by_cases k9:c=9
       ·subst k9
        have t9:(((s[q]'hq).toNat:Int)!=9)=false:=(by rw[hc];rfl);have HGN:Hd (q+1+SC.bl false (s.data.toList.drop (q+1))=p+SC.bl false (s.data.toList.drop p)):=hd (by have h:=HG.o;rw[SC.bl_blank (by rw[hc];rfl)]at h;omega);clear HG HDR;go_wp2;go_roundw
        case rel=>exact⟨q+1,false,rfl,HNX,HGN⟩
        case measure=>rw[SC.atOf_eql HNX.o,HMU.o];omega
       ·have t9:((c:Int)!=9)=true:=by(rw[bne_iff_ne];omega)
        by_cases k13:c=13
        ·subst k13
         have t13:(((s[q]'hq).toNat:Int)!=13)=false:=(by rw[hc];rfl);have HGN:Hd (q+1+SC.bl false (s.data.toList.drop (q+1))=p+SC.bl false (s.data.toList.drop p)):=hd (by have h:=HG.o;rw[SC.bl_blank (by rw[hc];rfl)]at h;omega);clear HG HDR;go_wp2;go_roundw
         case rel=>exact⟨q+1,false,rfl,HNX,HGN⟩
         case measure=>rw[SC.atOf_eql HNX.o,HMU.o];omega
        ·have t13:((c:Int)!=13)=true:=by(rw[bne_iff_ne];omega)
         have HE:Hd (p+SC.bl false (s.data.toList.drop p)=q):=hd (by have h:=HG.o;rw[SC.bl_none (by rw[hc];unfold SC.blank;rw[decide_eq_false_iff_not];omega) (by rw[hc];exact k35)]at h;omega);go_wp2
         first|(refine bodyPost_ret (results_none rfl _ _ _) rfl ?_)|go_end0
         exact⟨rfl,(by rw[HE.o];exact HZ2.o)⟩
  ·have hqI:¬ (q:Int)<(s.size:Int):=by omega
   have HE:Hd (p+SC.bl false (s.data.toList.drop p)=q):=hd (by have h:=HG.o;rw[List.drop_eq_nil_of_le (by rw[←Lib.size_eq];omega),SC.bl_nil]at h;omega);go_wp2
   first|(refine bodyPost_ret (results_none rfl _ _ _) rfl ?_)|go_end0
   exact⟨rfl,(by rw[HE.o];exact HZ1.o)⟩
namespace SC
theorem bl_stop:∀(b:Bool) (l:List UInt8),bl false (l.drop (bl b l))=0
 |false,[]=>rfl
 |true,[]=>rfl
 |false,c::r=>by
  by_cases hb:blank c.toNat=true
  ·rw[bl_blank hb,List.drop_succ_cons];exact bl_stop false r
  ·by_cases h35:c.toNat=35
   ·rw[bl_hash h35,List.drop_succ_cons];exact bl_stop true r
   ·have h0:=bl_none (r:=r) (by simpa using hb) h35
    rw[h0,List.drop_zero,h0]
 |true,c::r=>by
  by_cases h:c.toNat=10
  ·rw[bl_nl h,List.drop_succ_cons];exact bl_stop false r
  ·rw[bl_in h,List.drop_succ_cons];exact bl_stop true r
theorem bl_at {s:ByteArray}{p q:Nat}{br sq:Bool}(hq:p+bl false (s.data.toList.drop p)=q):go s p br sq=go s q br sq∧(q<s.size→blank (U.at' s q)=false∧U.at' s q≠35):=by
 have h0:bl false (s.data.toList.drop q)=0:=by
  rw[←hq,←List.drop_drop];exact bl_stop false _
 refine⟨go_eq (by rw[h0,hq];rfl),fun h=>?_⟩;obtain⟨c,r,hd,hc,hr⟩:=at_drop s q h;rw[hd]at h0
 constructor
 ·cases hb:blank (U.at' s q) with
  |false=>rfl
  |true=>rw[bl_blank (by rw[hc];exact hb)]at h0;omega
 ·intro h35
  rw[bl_hash (hc.trans h35)]at h0;omega
end SC
theorem rlscan_go (s:ByteArray)(w:World)(hs:s.size≤33554432) :
  Calls prog 25 #[.string s] w fun e w'=>SC.ScanA w (SC.go s 0 false false) e w':=by
 have hsI:(s.size:Int)≤33554432:=(by omega);have HS:=hd hs;clear hs;go_enter func25,ntmps25;go_wp2;obtain⟨z,hz⟩:∃z,z=w.heap.size:=⟨_,rfl⟩
 have HZS:=hd hz;rw[←hz];clear hz;go_loopw [6] (fun x wr=>∃(p:Nat) (br sq:Bool) (T:List SC.Tk),Hd (SC.Zl z w wr s p br sq T 0)∧Hd (SC.go s 0 false false=(SC.go s p br sq).pre T)) (fun _ wr=>s.size-SC.atOf z wr)
 case atStart=>
  refine⟨0,false,false,[],hd ?_,hd (SC.Out.pre_nil _).symm⟩;rw[HZS.o];refine⟨⟨none,0,0,?_,?_,rfl⟩,?_,Nat.le_refl _,Nat.zero_le _⟩
  ·exact heap_alloc_new w _
  ·exact⟨by rfl,.inl ⟨rfl,rfl⟩⟩
  ·exact(Below.refl _ _).alloc (Nat.le_refl _) _
 case round=>
  obtain⟨p,br,sq,T,HZ,HG⟩:=hrel;have HMU:=hd (SC.atOf_eql HZ.o);have CB:=hd (rlblank_any z w wr s p br sq T HZ.o HS.o);obtain⟨q,HQ⟩:∃q,Hd (p+SC.bl false (s.data.toList.drop p)=q):=⟨_,hd rfl⟩
  obtain⟨hgq,hqb⟩:=SC.bl_at (br:=br) (sq:=sq) HQ.o;have hpq:p≤q:=(by have:=HQ.o;omega);rw[HQ.o]at CB;rw[hgq]at HG;have HQB:=hd hqb;clear hgq hqb;go_wp2_with fail
  refine CB.o.mono ?_;rintro e1 w1 ⟨rfl,hz1⟩;have HZ1:=hd hz1;have hqs:=hz1.ps;have c1:=hz1.c1;have c2:=hz1.c2;have c3:=hz1.c3;obtain⟨A,n',c',hk1,hk2,rfl⟩:=hz1.ex;have c4:=hk1.cell 4 (by simp);simp only[List.getElem_cons_zero,List.getElem_cons_succ]at c4;have HOW:=hd hk2;clear hz1 hk1 hk2 CB HZ;by_cases hq:q<s.size
  ·have hqI:(q:Int)<(s.size:Int):=by omega
   clear c4 HOW;obtain⟨c,hc⟩:∃c,(s[q]'hq).toNat=c:=⟨_,rfl⟩
   have HC:Hd (U.at' s q=c):=hd (by rw[U.at_eq s q hq];exact hc);have hc256:c<256:=(by rw[←hc];exact(s[q]'hq).toNat_lt);obtain⟨d,HD⟩:∃d,Hd (U.at' s (q+1)=d):=⟨_,hd rfl⟩
   have hd256:d<256:=by
    rw[←HD.o];by_cases h:q+1<s.size
    ·rw[U.at_eq s (q+1) h];exact(s[q+1]'h).toNat_lt
    ·rw[SC.at_out s (q+1) h];decide
   have CA:=hd (fun W:World=>by have h:=rlat_any s (q+1) W (by have:=HS.o;omega);rw[HD.o,show ((q+1:Nat):Int)=(q:Int)+1 by omega]at h;exact h);have HNB:Hd (SC.nameB (U.at' s q) br sq=(L.ltr c ||(c==58 && (!br && !sq)))):=hd (by rw[HC.o];rfl);have HNU:Hd (SC.numB (U.at' s q) (U.at' s (q+1))=(L.dgt c ||(c==46 && L.dgt d))):=hd (by rw[HC.o,HD.o];rfl);have HQU:Hd (SC.quoB (U.at' s q)=(c==34 ||c==39 ||c==96)):=hd (by rw[HC.o];rfl);have HQ1:=hd hq;cases hl1:L.ltr c with
   |true=>
    have HR:Hd (SC.tok s q br sq=SC.nameR (s.data.toList.drop q) br sq):=hd (SC.tok_name' (by rw[HNB.o,hl1];rfl));have CX:=hd (rlname_any z w w1 s q br sq T HZ1.o HQ1.o HS.o (by rw[HNB.o,hl1];rfl));cases ht:SC.tok s q br sq with
    |ok kk n b' q'=>
     obtain⟨hb1,hb2⟩:=HQB.o HQ1.o;obtain⟨hn0,hn1,hgo⟩:=SC.go_tok' HQ1.o hb1 hb2 ht;have HGO:=hd hgo;have HNN:=hd (show q<s.size∧p≤q∧0<n from ⟨HQ1.o,hpq,hn0⟩);have CX2:=hd (by have h:=CX.o;rw[←HR.o,ht]at h;exact h);clear hgo ht hb1 hb2 hn0 hn1 CX HNB HNU HQU;go_wp2_with (first
      |(go_at_call 56;refine(refLetter_any c _ hc256).mono ?_;rintro e2 w2 ⟨rfl,rfl⟩;rw[hl1])
      |(go_at_call 57;refine CX2.o.mono ?_;rintro e3 w3 ⟨rfl,hz3⟩;have HZ4:Hd (SC.Zl z w w3 s (q+n) b' q' (T++[⟨kk,s.extract q (q+n),q⟩]) 0):=hd hz3;have e5:=HZ4.o.c5;clear hz3))
     go_roundw
     case rel=>exact⟨q+n,b',q',_,HZ4,hd (by rw[HG.o,HGO.o,SC.Out.pre_pre])⟩
     case measure=>rw[SC.atOf_eql HZ4.o,HMU.o];have:=HNN.o;omega
    |bad er=>
     obtain⟨hb1,hb2⟩:=HQB.o HQ1.o;have HF:=hd (SC.go_fault' HQ1.o hb1 hb2 ht);have her:=SC.tok_bad ht;have heN:(er !=0)=true:=by(rw[bne_iff_ne];omega)
     have CX2:=hd (by have h:=CX.o;rw[←HR.o,ht]at h;exact h);clear ht hb1 hb2 her CX HNB HNU HQU;go_wp2_with (first
      |(go_at_call 56;refine(refLetter_any c _ hc256).mono ?_;rintro e2 w2 ⟨rfl,rfl⟩;rw[hl1])
      |(go_at_call 57;refine CX2.o.mono ?_;rintro e3 w3 ⟨rfl,b',q',hz3⟩;have HZ4:Hd (SC.Zl z w w3 s q b' q' T er):=hd hz3;have e5:=hz3.c5;have e1:=hz3.c1;clear hz3))
     go_region
     go_wp2;go_ret3;exact(by rw[HG.o,HF.o];exact⟨rfl,(HZS.o ▸ HZ4.o.bel.drew)⟩)
   |false=>
    by_cases k58:c=58
    ·have t58:((c:Int)==58)=true:=by rw[k58];rfl
     have hl2:L.dgt c=false:=(by rw[k58];decide);have t46:((c:Int)==46)=false:=(by rw[k58];rfl);have t34:((c:Int)==34)=false:=(by rw[k58];rfl);have t39:((c:Int)==39)=false:=(by rw[k58];rfl);have t96:((c:Int)==96)=false:=(by rw[k58];rfl);have HNUF:Hd (SC.numB (U.at' s q) (U.at' s (q+1))=false):=hd (by rw[HNU.o,hl2,k58];rfl);have HQUF:Hd (SC.quoB (U.at' s q)=false):=hd (by rw[HQU.o,k58];rfl);cases br with
     |true=>
      have HR:Hd (SC.tok s q true sq=SC.opR (U.at' s q) (U.at' s (q+1)) true sq):=hd (SC.tok_op' (by rw[HNB.o,hl1];simp) HNUF.o HQUF.o);have CX:=hd (rlop_any z w w1 s q true sq T HZ1.o HQ1.o HS.o);clear k58;cases ht:SC.tok s q true sq with
      |ok kk n b' q'=>
       obtain⟨hb1,hb2⟩:=HQB.o HQ1.o;obtain⟨hn0,hn1,hgo⟩:=SC.go_tok' HQ1.o hb1 hb2 ht;have HGO:=hd hgo;have HNN:=hd (show q<s.size∧p≤q∧0<n from ⟨HQ1.o,hpq,hn0⟩);have CX2:=hd (by have h:=CX.o;rw[←HR.o,ht]at h;exact h);clear hgo ht hb1 hb2 hn0 hn1 CX HNB HNU HQU;go_wp2_with (first
        |(go_at_call 56;refine(refLetter_any c _ hc256).mono ?_;rintro e2 w2 ⟨rfl,rfl⟩;rw[hl1])
        |(go_at_call 58;refine(refDigit_any c _ hc256).mono ?_;rintro e2 w2 ⟨rfl,rfl⟩;rw[hl2])
        |(go_at_call 62;refine CX2.o.mono ?_;rintro e3 w3 ⟨rfl,hz3⟩;have HZ4:Hd (SC.Zl z w w3 s (q+n) b' q' (T++[⟨kk,s.extract q (q+n),q⟩]) 0):=hd hz3;have e5:=HZ4.o.c5;clear hz3))
       go_roundw
       case rel=>exact⟨q+n,b',q',_,HZ4,hd (by rw[HG.o,HGO.o,SC.Out.pre_pre])⟩
       case measure=>rw[SC.atOf_eql HZ4.o,HMU.o];have:=HNN.o;omega
      |bad er=>
       obtain⟨hb1,hb2⟩:=HQB.o HQ1.o;have HF:=hd (SC.go_fault' HQ1.o hb1 hb2 ht);have her:=SC.tok_bad ht;have heN:(er !=0)=true:=by(rw[bne_iff_ne];omega)
       have CX2:=hd (by have h:=CX.o;rw[←HR.o,ht]at h;exact h);clear ht hb1 hb2 her CX HNB HNU HQU;go_wp2_with (first
        |(go_at_call 56;refine(refLetter_any c _ hc256).mono ?_;rintro e2 w2 ⟨rfl,rfl⟩;rw[hl1])
        |(go_at_call 58;refine(refDigit_any c _ hc256).mono ?_;rintro e2 w2 ⟨rfl,rfl⟩;rw[hl2])
        |(go_at_call 62;refine CX2.o.mono ?_;rintro e3 w3 ⟨rfl,b',q',hz3⟩;have HZ4:Hd (SC.Zl z w w3 s q b' q' T er):=hd hz3;have e5:=hz3.c5;have e1:=hz3.c1;clear hz3))
       go_region
       go_wp2;go_ret3;exact(by rw[HG.o,HF.o];exact⟨rfl,(HZS.o ▸ HZ4.o.bel.drew)⟩)
     |false=>
      cases sq with
      |true=>
       have HR:Hd (SC.tok s q false true=SC.opR (U.at' s q) (U.at' s (q+1)) false true):=hd (SC.tok_op' (by rw[HNB.o,hl1];simp) HNUF.o HQUF.o);have CX:=hd (rlop_any z w w1 s q false true T HZ1.o HQ1.o HS.o);clear k58;cases ht:SC.tok s q false true with
       |ok kk n b' q'=>
        obtain⟨hb1,hb2⟩:=HQB.o HQ1.o;obtain⟨hn0,hn1,hgo⟩:=SC.go_tok' HQ1.o hb1 hb2 ht;have HGO:=hd hgo;have HNN:=hd (show q<s.size∧p≤q∧0<n from ⟨HQ1.o,hpq,hn0⟩);have CX2:=hd (by have h:=CX.o;rw[←HR.o,ht]at h;exact h);clear hgo ht hb1 hb2 hn0 hn1 CX HNB HNU HQU;go_wp2_with (first
         |(go_at_call 56;refine(refLetter_any c _ hc256).mono ?_;rintro e2 w2 ⟨rfl,rfl⟩;rw[hl1])
         |(go_at_call 58;refine(refDigit_any c _ hc256).mono ?_;rintro e2 w2 ⟨rfl,rfl⟩;rw[hl2])
         |(go_at_call 62;refine CX2.o.mono ?_;rintro e3 w3 ⟨rfl,hz3⟩;have HZ4:Hd (SC.Zl z w w3 s (q+n) b' q' (T++[⟨kk,s.extract q (q+n),q⟩]) 0):=hd hz3;have e5:=HZ4.o.c5;clear hz3))
        go_roundw
        case rel=>exact⟨q+n,b',q',_,HZ4,hd (by rw[HG.o,HGO.o,SC.Out.pre_pre])⟩
        case measure=>rw[SC.atOf_eql HZ4.o,HMU.o];have:=HNN.o;omega
       |bad er=>
        obtain⟨hb1,hb2⟩:=HQB.o HQ1.o;have HF:=hd (SC.go_fault' HQ1.o hb1 hb2 ht);have her:=SC.tok_bad ht;have heN:(er !=0)=true:=by(rw[bne_iff_ne];omega)
        have CX2:=hd (by have h:=CX.o;rw[←HR.o,ht]at h;exact h);clear ht hb1 hb2 her CX HNB HNU HQU;go_wp2_with (first
         |(go_at_call 56;refine(refLetter_any c _ hc256).mono ?_;rintro e2 w2 ⟨rfl,rfl⟩;rw[hl1])
         |(go_at_call 58;refine(refDigit_any c _ hc256).mono ?_;rintro e2 w2 ⟨rfl,rfl⟩;rw[hl2])
         |(go_at_call 62;refine CX2.o.mono ?_;rintro e3 w3 ⟨rfl,b',q',hz3⟩;have HZ4:Hd (SC.Zl z w w3 s q b' q' T er):=hd hz3;have e5:=hz3.c5;have e1:=hz3.c1;clear hz3))
        go_region
        go_wp2;go_ret3;exact(by rw[HG.o,HF.o];exact⟨rfl,(HZS.o ▸ HZ4.o.bel.drew)⟩)
      |false=>
       have HR:Hd (SC.tok s q false false=SC.nameR (s.data.toList.drop q) false false):=hd (SC.tok_name' (by rw[HNB.o,k58];rfl));have CX:=hd (rlname_any z w w1 s q false false T HZ1.o HQ1.o HS.o (by rw[HNB.o,k58];rfl));clear k58;cases ht:SC.tok s q false false with
       |ok kk n b' q'=>
        obtain⟨hb1,hb2⟩:=HQB.o HQ1.o;obtain⟨hn0,hn1,hgo⟩:=SC.go_tok' HQ1.o hb1 hb2 ht;have HGO:=hd hgo;have HNN:=hd (show q<s.size∧p≤q∧0<n from ⟨HQ1.o,hpq,hn0⟩);have CX2:=hd (by have h:=CX.o;rw[←HR.o,ht]at h;exact h);clear hgo ht hb1 hb2 hn0 hn1 CX HNB HNU HQU;go_wp2_with (first
         |(go_at_call 56;refine(refLetter_any c _ hc256).mono ?_;rintro e2 w2 ⟨rfl,rfl⟩;rw[hl1])
         |(go_at_call 57;refine CX2.o.mono ?_;rintro e3 w3 ⟨rfl,hz3⟩;have HZ4:Hd (SC.Zl z w w3 s (q+n) b' q' (T++[⟨kk,s.extract q (q+n),q⟩]) 0):=hd hz3;have e5:=HZ4.o.c5;clear hz3))
        go_roundw
        case rel=>exact⟨q+n,b',q',_,HZ4,hd (by rw[HG.o,HGO.o,SC.Out.pre_pre])⟩
        case measure=>rw[SC.atOf_eql HZ4.o,HMU.o];have:=HNN.o;omega
       |bad er=>
        obtain⟨hb1,hb2⟩:=HQB.o HQ1.o;have HF:=hd (SC.go_fault' HQ1.o hb1 hb2 ht);have her:=SC.tok_bad ht;have heN:(er !=0)=true:=by(rw[bne_iff_ne];omega)
        have CX2:=hd (by have h:=CX.o;rw[←HR.o,ht]at h;exact h);clear ht hb1 hb2 her CX HNB HNU HQU;go_wp2_with (first
         |(go_at_call 56;refine(refLetter_any c _ hc256).mono ?_;rintro e2 w2 ⟨rfl,rfl⟩;rw[hl1])
         |(go_at_call 57;refine CX2.o.mono ?_;rintro e3 w3 ⟨rfl,b',q',hz3⟩;have HZ4:Hd (SC.Zl z w w3 s q b' q' T er):=hd hz3;have e5:=hz3.c5;have e1:=hz3.c1;clear hz3))
        go_region
        go_wp2;go_ret3;exact(by rw[HG.o,HF.o];exact⟨rfl,(HZS.o ▸ HZ4.o.bel.drew)⟩)
    ·have t58:((c:Int)==58)=false:=by(rw[bf];omega)
     have HNBF:Hd (SC.nameB (U.at' s q) br sq=false):=hd (by rw[HNB.o,hl1];simp[k58]);cases hl2:L.dgt c with
     |true=>
      have HR:Hd (SC.tok s q br sq=SC.number s q br sq):=hd (SC.tok_num' HNBF.o (by rw[HNU.o,hl2];rfl));have CX:=hd (rlnum_any z w w1 s q br sq T HZ1.o HQ1.o HS.o);cases ht:SC.tok s q br sq with
      |ok kk n b' q'=>
       obtain⟨hb1,hb2⟩:=HQB.o HQ1.o;obtain⟨hn0,hn1,hgo⟩:=SC.go_tok' HQ1.o hb1 hb2 ht;have HGO:=hd hgo;have HNN:=hd (show q<s.size∧p≤q∧0<n from ⟨HQ1.o,hpq,hn0⟩);have CX2:=hd (by have h:=CX.o;rw[←HR.o,ht]at h;exact h);clear hgo ht hb1 hb2 hn0 hn1 CX HNB HNU HQU;go_wp2_with (first
        |(go_at_call 56;refine(refLetter_any c _ hc256).mono ?_;rintro e2 w2 ⟨rfl,rfl⟩;rw[hl1])
        |(go_at_call 58;refine(refDigit_any c _ hc256).mono ?_;rintro e2 w2 ⟨rfl,rfl⟩;rw[hl2])
        |(go_at_call 60;refine CX2.o.mono ?_;rintro e3 w3 ⟨rfl,hz3⟩;have HZ4:Hd (SC.Zl z w w3 s (q+n) b' q' (T++[⟨kk,s.extract q (q+n),q⟩]) 0):=hd hz3;have e5:=HZ4.o.c5;clear hz3))
       go_roundw
       case rel=>exact⟨q+n,b',q',_,HZ4,hd (by rw[HG.o,HGO.o,SC.Out.pre_pre])⟩
       case measure=>rw[SC.atOf_eql HZ4.o,HMU.o];have:=HNN.o;omega
      |bad er=>
       obtain⟨hb1,hb2⟩:=HQB.o HQ1.o;have HF:=hd (SC.go_fault' HQ1.o hb1 hb2 ht);have her:=SC.tok_bad ht;have heN:(er !=0)=true:=by(rw[bne_iff_ne];omega)
       have CX2:=hd (by have h:=CX.o;rw[←HR.o,ht]at h;exact h);clear ht hb1 hb2 her CX HNB HNU HQU;go_wp2_with (first
        |(go_at_call 56;refine(refLetter_any c _ hc256).mono ?_;rintro e2 w2 ⟨rfl,rfl⟩;rw[hl1])
        |(go_at_call 58;refine(refDigit_any c _ hc256).mono ?_;rintro e2 w2 ⟨rfl,rfl⟩;rw[hl2])
        |(go_at_call 60;refine CX2.o.mono ?_;rintro e3 w3 ⟨rfl,b',q',hz3⟩;have HZ4:Hd (SC.Zl z w w3 s q b' q' T er):=hd hz3;have e5:=hz3.c5;have e1:=hz3.c1;clear hz3))
       go_region
       go_wp2;go_ret3;exact(by rw[HG.o,HF.o];exact⟨rfl,(HZS.o ▸ HZ4.o.bel.drew)⟩)
     |false=>
      by_cases k46:c=46
      ·have t46:((c:Int)==46)=true:=by rw[k46];rfl
       have t34:((c:Int)==34)=false:=(by rw[k46];rfl);have t39:((c:Int)==39)=false:=(by rw[k46];rfl);have t96:((c:Int)==96)=false:=(by rw[k46];rfl);have HQUF:Hd (SC.quoB (U.at' s q)=false):=hd (by rw[HQU.o,k46];rfl);have HDC:=hd (fun W:World=>by have h:=refDigit_any c W hc256;rw[hl2]at h;exact h);cases hl3:L.dgt d with
       |true=>
        have HDD:=hd (fun W:World=>by have h:=refDigit_any d W hd256;rw[hl3]at h;exact h);have HR:Hd (SC.tok s q br sq=SC.number s q br sq):=hd (SC.tok_num' HNBF.o (by rw[HNU.o,hl2,hl3,k46];rfl));have CX:=hd (rlnum_any z w w1 s q br sq T HZ1.o HQ1.o HS.o);clear k46;cases ht:SC.tok s q br sq with
        |ok kk n b' q'=>
         obtain⟨hb1,hb2⟩:=HQB.o HQ1.o;obtain⟨hn0,hn1,hgo⟩:=SC.go_tok' HQ1.o hb1 hb2 ht;have HGO:=hd hgo;have HNN:=hd (show q<s.size∧p≤q∧0<n from ⟨HQ1.o,hpq,hn0⟩);have CX2:=hd (by have h:=CX.o;rw[←HR.o,ht]at h;exact h);clear hgo ht hb1 hb2 hn0 hn1 CX HNB HNU HQU;go_wp2_with (first
          |(go_at_call 56;refine(refLetter_any c _ hc256).mono ?_;rintro e2 w2 ⟨rfl,rfl⟩;rw[hl1])
          |(go_at_call 58;with_reducible refine(HDC.o _).mono ?_;rintro e2 w2 ⟨rfl,rfl⟩)
          |(go_at_call 58;refine(HDD.o _).mono ?_;rintro e2 w2 ⟨rfl,rfl⟩)
          |(go_at_call 59;refine(CA.o _).mono ?_;rintro e2 w2 ⟨rfl,rfl⟩)
          |(go_at_call 60;refine CX2.o.mono ?_;rintro e3 w3 ⟨rfl,hz3⟩;have HZ4:Hd (SC.Zl z w w3 s (q+n) b' q' (T++[⟨kk,s.extract q (q+n),q⟩]) 0):=hd hz3;have e5:=HZ4.o.c5;clear hz3))
         go_roundw
         case rel=>exact⟨q+n,b',q',_,HZ4,hd (by rw[HG.o,HGO.o,SC.Out.pre_pre])⟩
         case measure=>rw[SC.atOf_eql HZ4.o,HMU.o];have:=HNN.o;omega
        |bad er=>
         obtain⟨hb1,hb2⟩:=HQB.o HQ1.o;have HF:=hd (SC.go_fault' HQ1.o hb1 hb2 ht);have her:=SC.tok_bad ht;have heN:(er !=0)=true:=by(rw[bne_iff_ne];omega)
         have CX2:=hd (by have h:=CX.o;rw[←HR.o,ht]at h;exact h);clear ht hb1 hb2 her CX HNB HNU HQU;go_wp2_with (first
          |(go_at_call 56;refine(refLetter_any c _ hc256).mono ?_;rintro e2 w2 ⟨rfl,rfl⟩;rw[hl1])
          |(go_at_call 58;with_reducible refine(HDC.o _).mono ?_;rintro e2 w2 ⟨rfl,rfl⟩)
          |(go_at_call 58;refine(HDD.o _).mono ?_;rintro e2 w2 ⟨rfl,rfl⟩)
          |(go_at_call 59;refine(CA.o _).mono ?_;rintro e2 w2 ⟨rfl,rfl⟩)
          |(go_at_call 60;refine CX2.o.mono ?_;rintro e3 w3 ⟨rfl,b',q',hz3⟩;have HZ4:Hd (SC.Zl z w w3 s q b' q' T er):=hd hz3;have e5:=hz3.c5;have e1:=hz3.c1;clear hz3))
         go_region
         go_wp2;go_ret3;exact(by rw[HG.o,HF.o];exact⟨rfl,(HZS.o ▸ HZ4.o.bel.drew)⟩)
       |false=>
        have HDD:=hd (fun W:World=>by have h:=refDigit_any d W hd256;rw[hl3]at h;exact h);have HNUF:Hd (SC.numB (U.at' s q) (U.at' s (q+1))=false):=hd (by rw[HNU.o,hl2,hl3,k46];rfl);have HR:Hd (SC.tok s q br sq=SC.opR (U.at' s q) (U.at' s (q+1)) br sq):=hd (SC.tok_op' HNBF.o HNUF.o HQUF.o);have CX:=hd (rlop_any z w w1 s q br sq T HZ1.o HQ1.o HS.o);clear k46;cases ht:SC.tok s q br sq with
        |ok kk n b' q'=>
         obtain⟨hb1,hb2⟩:=HQB.o HQ1.o;obtain⟨hn0,hn1,hgo⟩:=SC.go_tok' HQ1.o hb1 hb2 ht;have HGO:=hd hgo;have HNN:=hd (show q<s.size∧p≤q∧0<n from ⟨HQ1.o,hpq,hn0⟩);have CX2:=hd (by have h:=CX.o;rw[←HR.o,ht]at h;exact h);clear hgo ht hb1 hb2 hn0 hn1 CX HNB HNU HQU;go_wp2_with (first
          |(go_at_call 56;refine(refLetter_any c _ hc256).mono ?_;rintro e2 w2 ⟨rfl,rfl⟩;rw[hl1])
          |(go_at_call 58;with_reducible refine(HDC.o _).mono ?_;rintro e2 w2 ⟨rfl,rfl⟩)
          |(go_at_call 58;refine(HDD.o _).mono ?_;rintro e2 w2 ⟨rfl,rfl⟩)
          |(go_at_call 59;refine(CA.o _).mono ?_;rintro e2 w2 ⟨rfl,rfl⟩)
          |(go_at_call 62;refine CX2.o.mono ?_;rintro e3 w3 ⟨rfl,hz3⟩;have HZ4:Hd (SC.Zl z w w3 s (q+n) b' q' (T++[⟨kk,s.extract q (q+n),q⟩]) 0):=hd hz3;have e5:=HZ4.o.c5;clear hz3))
         go_roundw
         case rel=>exact⟨q+n,b',q',_,HZ4,hd (by rw[HG.o,HGO.o,SC.Out.pre_pre])⟩
         case measure=>rw[SC.atOf_eql HZ4.o,HMU.o];have:=HNN.o;omega
        |bad er=>
         obtain⟨hb1,hb2⟩:=HQB.o HQ1.o;have HF:=hd (SC.go_fault' HQ1.o hb1 hb2 ht);have her:=SC.tok_bad ht;have heN:(er !=0)=true:=by(rw[bne_iff_ne];omega)
         have CX2:=hd (by have h:=CX.o;rw[←HR.o,ht]at h;exact h);clear ht hb1 hb2 her CX HNB HNU HQU;go_wp2_with (first
          |(go_at_call 56;refine(refLetter_any c _ hc256).mono ?_;rintro e2 w2 ⟨rfl,rfl⟩;rw[hl1])
          |(go_at_call 58;with_reducible refine(HDC.o _).mono ?_;rintro e2 w2 ⟨rfl,rfl⟩)
          |(go_at_call 58;refine(HDD.o _).mono ?_;rintro e2 w2 ⟨rfl,rfl⟩)
          |(go_at_call 59;refine(CA.o _).mono ?_;rintro e2 w2 ⟨rfl,rfl⟩)
          |(go_at_call 62;refine CX2.o.mono ?_;rintro e3 w3 ⟨rfl,b',q',hz3⟩;have HZ4:Hd (SC.Zl z w w3 s q b' q' T er):=hd hz3;have e5:=hz3.c5;have e1:=hz3.c1;clear hz3))
         go_region
         go_wp2;go_ret3;exact(by rw[HG.o,HF.o];exact⟨rfl,(HZS.o ▸ HZ4.o.bel.drew)⟩)
      ·have t46:((c:Int)==46)=false:=by(rw[bf];omega)
       have HNUF:Hd (SC.numB (U.at' s q) (U.at' s (q+1))=false):=hd (by rw[HNU.o,hl2];simp[k46]);by_cases hqq:c=34∨c=39∨c=96
       ·have HQUT:Hd (SC.quoB (U.at' s q)=true):=hd (by rw[HQU.o];rcases hqq with h|h|h<;>rw[h]<;>rfl)
        have HR:Hd (SC.tok s q br sq=SC.litK s q br sq):=hd (SC.tok_lit' HNBF.o HNUF.o HQUT.o);have CX:=hd (rllit_any z w w1 s q br sq T HZ1.o HQ1.o HS.o (by rw[HC.o];exact hqq));rcases hqq with hk|hk|hk
        ·have t34:((c:Int)==34)=true:=by rw[hk];rfl
         have t39:((c:Int)==39)=false:=(by rw[hk];rfl);have t96:((c:Int)==96)=false:=(by rw[hk];rfl);clear hk;cases ht:SC.tok s q br sq with
         |ok kk n b' q'=>
          obtain⟨hb1,hb2⟩:=HQB.o HQ1.o;obtain⟨hn0,hn1,hgo⟩:=SC.go_tok' HQ1.o hb1 hb2 ht;have HGO:=hd hgo;have HNN:=hd (show q<s.size∧p≤q∧0<n from ⟨HQ1.o,hpq,hn0⟩);have CX2:=hd (by have h:=CX.o;rw[←HR.o,ht]at h;exact h);clear hgo ht hb1 hb2 hn0 hn1 CX HNB HNU HQU;go_wp2_with (first
           |(go_at_call 56;refine(refLetter_any c _ hc256).mono ?_;rintro e2 w2 ⟨rfl,rfl⟩;rw[hl1])
           |(go_at_call 58;refine(refDigit_any c _ hc256).mono ?_;rintro e2 w2 ⟨rfl,rfl⟩;rw[hl2])
           |(go_at_call 61;refine CX2.o.mono ?_;rintro e3 w3 ⟨rfl,hz3⟩;have HZ4:Hd (SC.Zl z w w3 s (q+n) b' q' (T++[⟨kk,s.extract q (q+n),q⟩]) 0):=hd hz3;have e5:=HZ4.o.c5;clear hz3))
          go_roundw
          case rel=>exact⟨q+n,b',q',_,HZ4,hd (by rw[HG.o,HGO.o,SC.Out.pre_pre])⟩
          case measure=>rw[SC.atOf_eql HZ4.o,HMU.o];have:=HNN.o;omega
         |bad er=>
          obtain⟨hb1,hb2⟩:=HQB.o HQ1.o;have HF:=hd (SC.go_fault' HQ1.o hb1 hb2 ht);have her:=SC.tok_bad ht;have heN:(er !=0)=true:=by(rw[bne_iff_ne];omega)
          have CX2:=hd (by have h:=CX.o;rw[←HR.o,ht]at h;exact h);clear ht hb1 hb2 her CX HNB HNU HQU;go_wp2_with (first
           |(go_at_call 56;refine(refLetter_any c _ hc256).mono ?_;rintro e2 w2 ⟨rfl,rfl⟩;rw[hl1])
           |(go_at_call 58;refine(refDigit_any c _ hc256).mono ?_;rintro e2 w2 ⟨rfl,rfl⟩;rw[hl2])
           |(go_at_call 61;refine CX2.o.mono ?_;rintro e3 w3 ⟨rfl,b',q',hz3⟩;have HZ4:Hd (SC.Zl z w w3 s q b' q' T er):=hd hz3;have e5:=hz3.c5;have e1:=hz3.c1;clear hz3))
          go_region
          go_wp2;go_ret3;exact(by rw[HG.o,HF.o];exact⟨rfl,(HZS.o ▸ HZ4.o.bel.drew)⟩)
        ·have t34:((c:Int)==34)=false:=by rw[hk];rfl
         have t39:((c:Int)==39)=true:=(by rw[hk];rfl);have t96:((c:Int)==96)=false:=(by rw[hk];rfl);clear hk;cases ht:SC.tok s q br sq with
         |ok kk n b' q'=>
          obtain⟨hb1,hb2⟩:=HQB.o HQ1.o;obtain⟨hn0,hn1,hgo⟩:=SC.go_tok' HQ1.o hb1 hb2 ht;have HGO:=hd hgo;have HNN:=hd (show q<s.size∧p≤q∧0<n from ⟨HQ1.o,hpq,hn0⟩);have CX2:=hd (by have h:=CX.o;rw[←HR.o,ht]at h;exact h);clear hgo ht hb1 hb2 hn0 hn1 CX HNB HNU HQU;go_wp2_with (first
           |(go_at_call 56;refine(refLetter_any c _ hc256).mono ?_;rintro e2 w2 ⟨rfl,rfl⟩;rw[hl1])
           |(go_at_call 58;refine(refDigit_any c _ hc256).mono ?_;rintro e2 w2 ⟨rfl,rfl⟩;rw[hl2])
           |(go_at_call 61;refine CX2.o.mono ?_;rintro e3 w3 ⟨rfl,hz3⟩;have HZ4:Hd (SC.Zl z w w3 s (q+n) b' q' (T++[⟨kk,s.extract q (q+n),q⟩]) 0):=hd hz3;have e5:=HZ4.o.c5;clear hz3))
          go_roundw
          case rel=>exact⟨q+n,b',q',_,HZ4,hd (by rw[HG.o,HGO.o,SC.Out.pre_pre])⟩
          case measure=>rw[SC.atOf_eql HZ4.o,HMU.o];have:=HNN.o;omega
         |bad er=>
          obtain⟨hb1,hb2⟩:=HQB.o HQ1.o;have HF:=hd (SC.go_fault' HQ1.o hb1 hb2 ht);have her:=SC.tok_bad ht;have heN:(er !=0)=true:=by(rw[bne_iff_ne];omega)
          have CX2:=hd (by have h:=CX.o;rw[←HR.o,ht]at h;exact h);clear ht hb1 hb2 her CX HNB HNU HQU;go_wp2_with (first
           |(go_at_call 56;refine(refLetter_any c _ hc256).mono ?_;rintro e2 w2 ⟨rfl,rfl⟩;rw[hl1])
           |(go_at_call 58;refine(refDigit_any c _ hc256).mono ?_;rintro e2 w2 ⟨rfl,rfl⟩;rw[hl2])
           |(go_at_call 61;refine CX2.o.mono ?_;rintro e3 w3 ⟨rfl,b',q',hz3⟩;have HZ4:Hd (SC.Zl z w w3 s q b' q' T er):=hd hz3;have e5:=hz3.c5;have e1:=hz3.c1;clear hz3))
          go_region
          go_wp2;go_ret3;exact(by rw[HG.o,HF.o];exact⟨rfl,(HZS.o ▸ HZ4.o.bel.drew)⟩)
        ·have t34:((c:Int)==34)=false:=by rw[hk];rfl
         have t39:((c:Int)==39)=false:=(by rw[hk];rfl);have t96:((c:Int)==96)=true:=(by rw[hk];rfl);clear hk;cases ht:SC.tok s q br sq with
         |ok kk n b' q'=>
          obtain⟨hb1,hb2⟩:=HQB.o HQ1.o;obtain⟨hn0,hn1,hgo⟩:=SC.go_tok' HQ1.o hb1 hb2 ht;have HGO:=hd hgo;have HNN:=hd (show q<s.size∧p≤q∧0<n from ⟨HQ1.o,hpq,hn0⟩);have CX2:=hd (by have h:=CX.o;rw[←HR.o,ht]at h;exact h);clear hgo ht hb1 hb2 hn0 hn1 CX HNB HNU HQU;go_wp2_with (first
           |(go_at_call 56;refine(refLetter_any c _ hc256).mono ?_;rintro e2 w2 ⟨rfl,rfl⟩;rw[hl1])
           |(go_at_call 58;refine(refDigit_any c _ hc256).mono ?_;rintro e2 w2 ⟨rfl,rfl⟩;rw[hl2])
           |(go_at_call 61;refine CX2.o.mono ?_;rintro e3 w3 ⟨rfl,hz3⟩;have HZ4:Hd (SC.Zl z w w3 s (q+n) b' q' (T++[⟨kk,s.extract q (q+n),q⟩]) 0):=hd hz3;have e5:=HZ4.o.c5;clear hz3))
          go_roundw
          case rel=>exact⟨q+n,b',q',_,HZ4,hd (by rw[HG.o,HGO.o,SC.Out.pre_pre])⟩
          case measure=>rw[SC.atOf_eql HZ4.o,HMU.o];have:=HNN.o;omega
         |bad er=>
          obtain⟨hb1,hb2⟩:=HQB.o HQ1.o;have HF:=hd (SC.go_fault' HQ1.o hb1 hb2 ht);have her:=SC.tok_bad ht;have heN:(er !=0)=true:=by(rw[bne_iff_ne];omega)
          have CX2:=hd (by have h:=CX.o;rw[←HR.o,ht]at h;exact h);clear ht hb1 hb2 her CX HNB HNU HQU;go_wp2_with (first
           |(go_at_call 56;refine(refLetter_any c _ hc256).mono ?_;rintro e2 w2 ⟨rfl,rfl⟩;rw[hl1])
           |(go_at_call 58;refine(refDigit_any c _ hc256).mono ?_;rintro e2 w2 ⟨rfl,rfl⟩;rw[hl2])
           |(go_at_call 61;refine CX2.o.mono ?_;rintro e3 w3 ⟨rfl,b',q',hz3⟩;have HZ4:Hd (SC.Zl z w w3 s q b' q' T er):=hd hz3;have e5:=hz3.c5;have e1:=hz3.c1;clear hz3))
          go_region
          go_wp2;go_ret3;exact(by rw[HG.o,HF.o];exact⟨rfl,(HZS.o ▸ HZ4.o.bel.drew)⟩)
       ·have t34:((c:Int)==34)=false:=by(rw[bf];omega)
        have t39:((c:Int)==39)=false:=by(rw[bf];omega)
        have t96:((c:Int)==96)=false:=by(rw[bf];omega)
        have HQUF:Hd (SC.quoB (U.at' s q)=false):=hd (by rw[HQU.o];simp;omega);have HR:Hd (SC.tok s q br sq=SC.opR (U.at' s q) (U.at' s (q+1)) br sq):=hd (SC.tok_op' HNBF.o HNUF.o HQUF.o);have CX:=hd (rlop_any z w w1 s q br sq T HZ1.o HQ1.o HS.o);clear hqq;cases ht:SC.tok s q br sq with
        |ok kk n b' q'=>
         obtain⟨hb1,hb2⟩:=HQB.o HQ1.o;obtain⟨hn0,hn1,hgo⟩:=SC.go_tok' HQ1.o hb1 hb2 ht;have HGO:=hd hgo;have HNN:=hd (show q<s.size∧p≤q∧0<n from ⟨HQ1.o,hpq,hn0⟩);have CX2:=hd (by have h:=CX.o;rw[←HR.o,ht]at h;exact h);clear hgo ht hb1 hb2 hn0 hn1 CX HNB HNU HQU;go_wp2_with (first
          |(go_at_call 56;refine(refLetter_any c _ hc256).mono ?_;rintro e2 w2 ⟨rfl,rfl⟩;rw[hl1])
          |(go_at_call 58;refine(refDigit_any c _ hc256).mono ?_;rintro e2 w2 ⟨rfl,rfl⟩;rw[hl2])
          |(go_at_call 62;refine CX2.o.mono ?_;rintro e3 w3 ⟨rfl,hz3⟩;have HZ4:Hd (SC.Zl z w w3 s (q+n) b' q' (T++[⟨kk,s.extract q (q+n),q⟩]) 0):=hd hz3;have e5:=HZ4.o.c5;clear hz3))
         go_roundw
         case rel=>exact⟨q+n,b',q',_,HZ4,hd (by rw[HG.o,HGO.o,SC.Out.pre_pre])⟩
         case measure=>rw[SC.atOf_eql HZ4.o,HMU.o];have:=HNN.o;omega
        |bad er=>
         obtain⟨hb1,hb2⟩:=HQB.o HQ1.o;have HF:=hd (SC.go_fault' HQ1.o hb1 hb2 ht);have her:=SC.tok_bad ht;have heN:(er !=0)=true:=by(rw[bne_iff_ne];omega)
         have CX2:=hd (by have h:=CX.o;rw[←HR.o,ht]at h;exact h);clear ht hb1 hb2 her CX HNB HNU HQU;go_wp2_with (first
          |(go_at_call 56;refine(refLetter_any c _ hc256).mono ?_;rintro e2 w2 ⟨rfl,rfl⟩;rw[hl1])
          |(go_at_call 58;refine(refDigit_any c _ hc256).mono ?_;rintro e2 w2 ⟨rfl,rfl⟩;rw[hl2])
          |(go_at_call 62;refine CX2.o.mono ?_;rintro e3 w3 ⟨rfl,b',q',hz3⟩;have HZ4:Hd (SC.Zl z w w3 s q b' q' T er):=hd hz3;have e5:=hz3.c5;have e1:=hz3.c1;clear hz3))
         go_region
         go_wp2;go_ret3;exact(by rw[HG.o,HF.o];exact⟨rfl,(HZS.o ▸ HZ4.o.bel.drew)⟩)
  ·obtain rfl:q=s.size:=by omega
   have HB1:=hd (SC.go_done (s:=s) (p:=s.size) (br:=br) (sq:=sq) (Nat.le_refl _));have HE:Hd (SC.go s 0 false false=.ok T):=hd (by rw[HG.o,HB1.o,SC.Out.pre,List.append_nil]);have HBE:=hd HZ1.o.bel;clear hpq HQ HQB;go_wp2;go_ret3;exact(by rw[HE.o];exact⟨_,rfl,own_base HOW.o (by rw[HZS.o];exact Nat.le_succ _),(HZS.o ▸ HBE.o)⟩)
theorem rlscan_any (s:ByteArray)(w:World)(hs:s.size≤1125899906842624) :
  Calls prog 25 #[.string s] w fun e w'=>SC.ScanA w (SC.scan s) e w':=by
 by_cases h:s.size≤33554432
 ·unfold SC.scan
  rw[if_neg (by omega)];exact rlscan_go s w h
 ·unfold SC.scan
  rw[if_pos (by omega)];have hsI:(33554432:Int)<(s.size:Int):=(by omega);go_enter func25,ntmps25;go_wp2;go_ret3;exact⟨rfl,Below.refl _ _⟩
end Go.Proofs.YtieknenhfeejiaaGreatDoor
