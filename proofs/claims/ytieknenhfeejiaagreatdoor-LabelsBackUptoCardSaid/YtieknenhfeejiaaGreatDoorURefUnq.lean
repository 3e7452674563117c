/- The walk of weirref01.escape: the same escapes. The walks of weirref01.Litera .. -/
import Derived.Test.YtieknenhfeejiaaGreatDoorUMb
set_option maxHeartbeats 1600000
set_option maxRecDepth 100000
set_option linter.unusedVariables false
set_option linter.unusedSimpArgs false
namespace Go.Proofs.YtieknenhfeejiaaGreatDoor
open _root_.Go.Proofs.Tryz
open Go.RowKit
namespace U
def escR:Option (List UInt8×Nat)→List UInt8×Int
 |none=>([],0)
 |some (bs,k)=>(bs,(k:Int)+1)
def pairs1:List UInt8:=[97,7,98,8,116,9,110,10,118,11,102,12,114,13]
theorem pairs1_yes (c:Nat)(h:isLetter c=true):pairL pairs1 c=some (plainB c):=by
 simp only[isLetter,Bool.or_eq_true,beq_iff_eq]at h;rcases h with (((((rfl|rfl)|rfl)|rfl)|rfl)|rfl)|rfl<;>decide
theorem pairs1_no (c:Nat)(h:isLetter c=false):pairL pairs1 c=none:=by
 simp only[isLetter,Bool.or_eq_false_iff,bf]at h;have d:∀k:Nat,k<256→(UInt8.ofNat k).toNat=k:=fun k hk=>ofNat_toNat k hk
 unfold pairs1;simp only[pairL];have e1:(97:UInt8).toNat=97:=rfl;have e2:(98:UInt8).toNat=98:=rfl;have e3:(116:UInt8).toNat=116:=rfl;have e4:(110:UInt8).toNat=110:=rfl;have e5:(118:UInt8).toNat=118:=rfl;have e6:(102:UInt8).toNat=102:=rfl;have e7:(114:UInt8).toNat=114:=rfl;rw[e1,e2,e3,e4,e5,e6,e7,if_neg (by omega),if_neg (by omega),if_neg (by omega),if_neg (by omega),if_neg (by omega),if_neg (by omega),if_neg (by omega)]
end U
theorem take_cons (s:ByteArray)(e p:Nat)(h:p<e)(he:e≤s.size):∃c:UInt8,c.toNat=U.at' s p∧(s.data.toList.take e).drop p=c::(s.data.toList.take e).drop (p+1):=by
 obtain⟨h',ee⟩:=list_at s p (by omega);have hl:p<(s.data.toList.take e).length:=(by rw[List.length_take,←Lib.size_eq];omega);refine⟨_,ee,?_⟩;rw[List.drop_eq_getElem_cons hl];simp
theorem ret_escR {a:ByteArray}{b:Int}{r:List UInt8×Int}(h1:a.data.toList=r.1)(h2:b=r.2):Ending.returned (.tuple #[.string a,.int .i64 b])=strR r:=ret_strR h1 h2
theorem resc_nil (q:Nat)(hq:q=34∨q=39)(s:ByteArray)(i e:Nat)(zi ze:Int)(hzi:zi=i)(hze:ze=e)(w:World)(hs:s.size≤140737488351232)(he:e≤s.size)(hi:i≤1125899906842624)(h0:¬ i+1<e) :
  Calls prog 67 #[.string s,.int .i64 zi,.int .i64 ze,.int .u8 q] w fun en w'=>en=strR (U.escR (U.escL q ((s.data.toList.take e).drop (i+1))))∧Below w.heap.size w w':=by
 subst hzi hze;have G:Hd (U.escR (U.escL q ((s.data.toList.take e).drop (i+1)))=([],0)):=hd <|by
  have:(s.data.toList.take e).drop (i+1)=[]:=List.eq_nil_of_length_eq_zero (by rw[List.length_drop,List.length_take,←Lib.size_eq];omega);rw[this];rfl
 clear hq;go_enter func67,ntmps67;go_wp2;go_ret2;exact⟨ret_escR (by rw[G.o]) (by rw[G.o]),Below.refl _ _⟩
theorem resc_back (q:Nat)(hq:q=34∨q=39)(s:ByteArray)(i e:Nat)(zi ze:Int)(hzi:zi=i)(hze:ze=e)(w:World)(hs:s.size≤140737488351232)(he:e≤s.size)(hi:i≤1125899906842624)(h0:i+1<e)(hc:U.at' s (i+1)=92) :
  Calls prog 67 #[.string s,.int .i64 zi,.int .i64 ze,.int .u8 q] w fun en w'=>en=strR (U.escR (U.escL q ((s.data.toList.take e).drop (i+1))))∧Below w.heap.size w w':=by
 subst hzi hze;have hm:i+1<s.size:=(by omega);obtain⟨c,ec,el⟩:=take_cons s e (i+1) h0 he;rw[show i+1+1=i+2 from rfl]at el;have e0:=U.at_eq s (i+1) hm;have hdt:decide ((e:Int)≤(i:Int)+1)=false:=(by rw[decide_eq_false_iff_not];omega);have hq':((s[i+1]'hm).toNat:Int)=92:=(by rw[←e0,hc];rfl);have G:Hd (U.escR (U.escL q ((s.data.toList.take e).drop (i+1)))=([UInt8.ofNat 92],2)):=hd <|by
  have hcc:c=UInt8.ofNat 92:=UInt8.toNat_inj.1 (by rw[ec,hc];rfl);rw[el,U.escL,ec,hc,if_neg (by decide),if_pos (.inl rfl),hcc];rfl
 have c1:=fun (W:World) (a:Int)=>conv_new 1 _ [a] rfl rfl W
 simp only[List.map_cons,List.map_nil]at c1;have f0:((92:Int)==(q:Int))=false:=(by rw[bf];omega);clear ec el e0 hc hq;go_enter func67,ntmps67;go_wp2;go_ret2;exact⟨ret_escR (by rw[G.o];rfl) (by rw[G.o]),(Below.refl _ _).alloc (Nat.le_refl _) _⟩
theorem resc_quote (q:Nat)(hq:q=34∨q=39)(s:ByteArray)(i e:Nat)(zi ze:Int)(hzi:zi=i)(hze:ze=e)(w:World)(hs:s.size≤140737488351232)(he:e≤s.size)(hi:i≤1125899906842624)(h0:i+1<e)(hc:U.at' s (i+1)=q) :
  Calls prog 67 #[.string s,.int .i64 zi,.int .i64 ze,.int .u8 q] w fun en w'=>en=strR (U.escR (U.escL q ((s.data.toList.take e).drop (i+1))))∧Below w.heap.size w w':=by
 subst hzi hze;have hm:i+1<s.size:=(by omega);obtain⟨c,ec,el⟩:=take_cons s e (i+1) h0 he;rw[show i+1+1=i+2 from rfl]at el;have e0:=U.at_eq s (i+1) hm;have hdt:decide ((e:Int)≤(i:Int)+1)=false:=(by rw[decide_eq_false_iff_not];omega);have hq':((s[i+1]'hm).toNat:Int)=(q:Int):=(by rw[←e0,hc]);have hq256:q<256:=(by omega);have G:Hd (U.escR (U.escL q ((s.data.toList.take e).drop (i+1)))=([UInt8.ofNat q],2)):=hd <|by
  have hcc:c=UInt8.ofNat q:=UInt8.toNat_inj.1 (by rw[ec,hc,U.ofNat_toNat q hq256]);rw[el,U.escL,ec,hc,hcc];rcases hq with rfl|rfl<;>rfl
 have c1:=fun (W:World) (a:Int)=>conv_new 1 _ [a] rfl rfl W
 simp only[List.map_cons,List.map_nil]at c1;clear ec el e0 hc hq;go_enter func67,ntmps67;go_wp2;go_ret2;exact⟨ret_escR (by rw[G.o];rfl) (by rw[G.o]),(Below.refl _ _).alloc (Nat.le_refl _) _⟩
theorem resc_letter (k:Nat)(hk:U.isLetter k=true)(q:Nat)(hq:q=34∨q=39)(s:ByteArray)(i e:Nat)(zi ze:Int)(hzi:zi=i)(hze:ze=e)(w:World)(hs:s.size≤140737488351232)(he:e≤s.size)(hi:i≤1125899906842624)(h0:i+1<e)(hc:U.at' s (i+1)=k) :
  Calls prog 67 #[.string s,.int .i64 zi,.int .i64 ze,.int .u8 q] w fun en w'=>en=strR (U.escR (U.escL q ((s.data.toList.take e).drop (i+1))))∧Below w.heap.size w w':=by
 subst hzi hze;have hm:i+1<s.size:=(by omega);obtain⟨c,ec,el⟩:=take_cons s e (i+1) h0 he;rw[show i+1+1=i+2 from rfl]at el;have e0:=U.at_eq s (i+1) hm;have hdt:decide ((e:Int)≤(i:Int)+1)=false:=(by rw[decide_eq_false_iff_not];omega);have hq':((s[i+1]'hm).toNat:Int)=(k:Int):=(by rw[←e0,hc]);have hkk:(k=97∨k=98∨k=116∨k=110∨k=118∨k=102∨k=114):=(by simpa[U.isLetter,or_assoc] using hk);have hk256:k<256:=(by omega);have hpv:U.plainB k<256:=(by unfold U.plainB;(repeat' split)<;>omega);have G:Hd (U.escR (U.escL q ((s.data.toList.take e).drop (i+1)))=(U.byteOf (U.plainB k),2)):=hd <|by
  rw[el,U.escL,ec,hc,if_pos hk];rfl
 have PL:Hd (U.pairL U.pairs1 k=some (U.plainB k)):=hd (U.pairs1_yes k hk);have f0:((k:Int)==(q:Int))=false:=(by rw[bf];omega);have f9:((k:Int)==92)=false:=(by rw[bf];omega);have hm2:((U.plainB k:Nat):Int)%256=(U.plainB k:Nat):=(by omega);have c1:=fun (W:World) (a:Int)=>conv_new 1 _ [a] rfl rfl W
 simp only[List.map_cons,List.map_nil]at c1;clear ec el e0 hc hq hk hkk;go_enter func67,ntmps67;go_wp2_with (go_at_call 97;refine(uletter_any k _ rfl _ _ (by decide) hk256).mono ?_;rintro e w' ⟨rfl,rfl⟩;rw[show U.pairL (ByteArray.data _).toList k=U.pairL U.pairs1 k from rfl,PL.o];dsimp only[U.numR])
 go_ret2;exact⟨ret_escR (by rw[G.o];rfl) (by rw[G.o]),(Below.refl _ _).alloc (Nat.le_refl _) _⟩
theorem resc_x (q:Nat)(hq:q=34∨q=39)(s:ByteArray)(i e:Nat)(zi ze:Int)(hzi:zi=i)(hze:ze=e)(w:World)(hs:s.size≤140737488351232)(he:e≤s.size)(hi:i≤1125899906842624)(h0:i+1<e)(hc:U.at' s (i+1)=120) :
  Calls prog 67 #[.string s,.int .i64 zi,.int .i64 ze,.int .u8 q] w fun en w'=>en=strR (U.escR (U.escL q ((s.data.toList.take e).drop (i+1))))∧Below w.heap.size w w':=by
 subst hzi hze;have hm:i+1<s.size:=(by omega);obtain⟨c,ec,el⟩:=take_cons s e (i+1) h0 he;rw[show i+1+1=i+2 from rfl]at el;have e0:=U.at_eq s (i+1) hm;have hdt:decide ((e:Int)≤(i:Int)+1)=false:=(by rw[decide_eq_false_iff_not];omega);have hq':((s[i+1]'hm).toNat:Int)=120:=(by rw[←e0,hc];rfl);have hG:U.escL q ((s.data.toList.take e).drop (i+1))=(U.numL 16 2 ((s.data.toList.take e).drop (i+2))).map fun v=>(U.byteOf v,3):=by
  rw[el,U.escL,ec,hc,if_neg (by decide),if_neg (by omega),if_pos rfl]
 have PL:Hd (U.pairL U.pairs1 120=none):=hd (U.pairs1_no 120 rfl);have f0:((120:Int)==(q:Int))=false:=(by rw[bf];omega);have c1:=fun (W:World) (a:Int)=>conv_new 1 _ [a] rfl rfl W
 simp only[List.map_cons,List.map_nil]at c1;cases hn:U.numL 16 2 ((s.data.toList.take e).drop (i+2)) with
 |none=>
  have N:=hd hn;have G:Hd (U.escR (U.escL q ((s.data.toList.take e).drop (i+1)))=([],0)):=hd <|by rw[hG,hn];rfl
  clear hG hn ec el e0 hc hq;go_enter func67,ntmps67;go_wp2_with (first
   |(go_at_call 97;refine(uletter_any 120 _ rfl _ _ (by decide) (by omega)).mono ?_;rintro e w' ⟨rfl,rfl⟩;rw[show U.pairL (ByteArray.data _).toList _=U.pairL U.pairs1 _ from rfl,PL.o];dsimp only[U.numR])
   |(go_at_call 98;refine(number16 s (i+2) 2 e _ _ _ (by omega) rfl rfl _ (by omega) (by decide) (by decide) he (by omega)).mono ?_;rintro e w' ⟨rfl,rfl⟩;rw[N.o];dsimp only[U.numR]))
  go_ret2;exact⟨ret_escR (by rw[G.o]) (by rw[G.o]),Below.refl _ _⟩
 |some r=>
  have N:=hd hn;have hr:r<256:=U.numL_lt 16 2 _ r (by omega) hn;have hm2:(r:Int)%256=r:=(by omega);have G:Hd (U.escR (U.escL q ((s.data.toList.take e).drop (i+1)))=(U.byteOf r,4)):=hd <|by rw[hG,hn];rfl
  clear hG hn ec el e0 hc hq;go_enter func67,ntmps67;go_wp2_with (first
   |(go_at_call 97;refine(uletter_any 120 _ rfl _ _ (by decide) (by omega)).mono ?_;rintro e w' ⟨rfl,rfl⟩;rw[show U.pairL (ByteArray.data _).toList _=U.pairL U.pairs1 _ from rfl,PL.o];dsimp only[U.numR])
   |(go_at_call 98;refine(number16 s (i+2) 2 e _ _ _ (by omega) rfl rfl _ (by omega) (by decide) (by decide) he (by omega)).mono ?_;rintro e w' ⟨rfl,rfl⟩;rw[N.o];dsimp only[U.numR]))
  go_ret2;exact⟨ret_escR (by rw[G.o];rfl) (by rw[G.o]),(Below.refl _ _).alloc (Nat.le_refl _) _⟩
theorem resc_u (q:Nat)(hq:q=34∨q=39)(s:ByteArray)(i e:Nat)(zi ze:Int)(hzi:zi=i)(hze:ze=e)(w:World)(hs:s.size≤140737488351232)(he:e≤s.size)(hi:i≤1125899906842624)(h0:i+1<e)(hc:U.at' s (i+1)=117) :
  Calls prog 67 #[.string s,.int .i64 zi,.int .i64 ze,.int .u8 q] w fun en w'=>en=strR (U.escR (U.escL q ((s.data.toList.take e).drop (i+1))))∧Below w.heap.size w w':=by
 subst hzi hze;have hm:i+1<s.size:=(by omega);obtain⟨c,ec,el⟩:=take_cons s e (i+1) h0 he;rw[show i+1+1=i+2 from rfl]at el;have e0:=U.at_eq s (i+1) hm;have hdt:decide ((e:Int)≤(i:Int)+1)=false:=(by rw[decide_eq_false_iff_not];omega);have hq':((s[i+1]'hm).toNat:Int)=117:=(by rw[←e0,hc];rfl);have hG:U.escL q ((s.data.toList.take e).drop (i+1))=U.runeOf (U.numL 16 4 ((s.data.toList.take e).drop (i+2))) 5:=by
  rw[el,U.escL,ec,hc,if_neg (by decide),if_neg (by omega),if_neg (by decide),if_pos rfl];rfl
 have PL:Hd (U.pairL U.pairs1 117=none):=hd (U.pairs1_no 117 rfl);have f0:((117:Int)==(q:Int))=false:=(by rw[bf];omega);cases hn:U.numL 16 4 ((s.data.toList.take e).drop (i+2)) with
 |none=>
  have N:=hd hn;have V:Hd (Utf8.valid (-1)=false):=hd (by decide);have G:Hd (U.escR (U.escL q ((s.data.toList.take e).drop (i+1)))=([],0)):=hd <|by rw[hG,hn];rfl
  clear hG hn ec el e0 hc hq;go_enter func67,ntmps67;go_wp2_with (first
   |(go_at_call 97;refine(uletter_any 117 _ rfl _ _ (by decide) (by omega)).mono ?_;rintro e w' ⟨rfl,rfl⟩;rw[show U.pairL (ByteArray.data _).toList _=U.pairL U.pairs1 _ from rfl,PL.o];dsimp only[U.numR])
   |(go_at_call 98;refine(number16 s (i+2) 4 e _ _ _ (by omega) rfl rfl _ (by omega) (by decide) (by decide) he (by omega)).mono ?_;rintro e w' ⟨rfl,rfl⟩;rw[N.o];dsimp only[U.numR])
   |(go_at_call 99;refine(IsRune_any _ _ (by omega) (by omega)).mono ?_;rintro e w' ⟨rfl,rfl⟩;rw[V.o]))
  go_ret2;exact⟨ret_escR (by rw[G.o]) (by rw[G.o]),Below.refl _ _⟩
 |some r=>
  have N:=hd hn;have hr:r<4294967296:=Nat.lt_of_lt_of_le (U.numL_lt 16 4 _ r (by omega) hn) (by decide);cases hv:Utf8.valid (r:Int) with
  |false=>
   have V:Hd (Utf8.valid (r:Int)=false):=hd hv;have G:Hd (U.escR (U.escL q ((s.data.toList.take e).drop (i+1)))=([],0)):=hd <|by rw[hG,hn,U.runeOf_bad r _ hv];rfl
   clear hG hn ec el e0 hc hq hv;go_enter func67,ntmps67;go_wp2_with (first
    |(go_at_call 97;refine(uletter_any 117 _ rfl _ _ (by decide) (by omega)).mono ?_;rintro e w' ⟨rfl,rfl⟩;rw[show U.pairL (ByteArray.data _).toList _=U.pairL U.pairs1 _ from rfl,PL.o];dsimp only[U.numR])
    |(go_at_call 98;refine(number16 s (i+2) 4 e _ _ _ (by omega) rfl rfl _ (by omega) (by decide) (by decide) he (by omega)).mono ?_;rintro e w' ⟨rfl,rfl⟩;rw[N.o];dsimp only[U.numR])
    |(go_at_call 99;refine(IsRune_any _ _ (by omega) (by omega)).mono ?_;rintro e w' ⟨rfl,rfl⟩;rw[V.o]))
   go_ret2;exact⟨ret_escR (by rw[G.o]) (by rw[G.o]),Below.refl _ _⟩
  |true=>
   have V:Hd (Utf8.valid (r:Int)=true):=hd hv;have G:Hd (U.escR (U.escL q ((s.data.toList.take e).drop (i+1)))=((Utf8.encode (r:Int)).toList,6)):=hd <|by rw[hG,hn,U.runeOf_good r _ hv];rfl
   have F:Hd (U.formB (r:Int)=Utf8.encode (r:Int)):=hd <|by unfold U.formB;rw[if_pos hv]
   clear hG hn ec el e0 hc hq hv;go_enter func67,ntmps67;go_wp2_with (first
    |(go_at_call 97;refine(uletter_any 117 _ rfl _ _ (by decide) (by omega)).mono ?_;rintro e w' ⟨rfl,rfl⟩;rw[show U.pairL (ByteArray.data _).toList _=U.pairL U.pairs1 _ from rfl,PL.o];dsimp only[U.numR])
    |(go_at_call 98;refine(number16 s (i+2) 4 e _ _ _ (by omega) rfl rfl _ (by omega) (by decide) (by decide) he (by omega)).mono ?_;rintro e w' ⟨rfl,rfl⟩;rw[N.o];dsimp only[U.numR])
    |(go_at_call 99;refine(IsRune_any _ _ (by omega) (by omega)).mono ?_;rintro e w' ⟨rfl,rfl⟩;rw[V.o])
    |(go_at_call 100;refine(Form_any _ _ (by omega) (by omega)).mono ?_;rintro e w1 ⟨rfl,hb1⟩;rw[F.o]))
   go_ret2;exact⟨ret_escR (by rw[G.o];exact(ByteArray.toList_eq _).symm) (by rw[G.o]),hb1⟩
theorem resc_U (q:Nat)(hq:q=34∨q=39)(s:ByteArray)(i e:Nat)(zi ze:Int)(hzi:zi=i)(hze:ze=e)(w:World)(hs:s.size≤140737488351232)(he:e≤s.size)(hi:i≤1125899906842624)(h0:i+1<e)(hc:U.at' s (i+1)=85) :
  Calls prog 67 #[.string s,.int .i64 zi,.int .i64 ze,.int .u8 q] w fun en w'=>en=strR (U.escR (U.escL q ((s.data.toList.take e).drop (i+1))))∧Below w.heap.size w w':=by
 subst hzi hze;have hm:i+1<s.size:=(by omega);obtain⟨c,ec,el⟩:=take_cons s e (i+1) h0 he;rw[show i+1+1=i+2 from rfl]at el;have e0:=U.at_eq s (i+1) hm;have hdt:decide ((e:Int)≤(i:Int)+1)=false:=(by rw[decide_eq_false_iff_not];omega);have hq':((s[i+1]'hm).toNat:Int)=85:=(by rw[←e0,hc];rfl);have hG:U.escL q ((s.data.toList.take e).drop (i+1))=U.runeOf (U.numL 16 8 ((s.data.toList.take e).drop (i+2))) 9:=by
  rw[el,U.escL,ec,hc,if_neg (by decide),if_neg (by omega),if_neg (by decide),if_neg (by decide),if_pos rfl];rfl
 have PL:Hd (U.pairL U.pairs1 85=none):=hd (U.pairs1_no 85 rfl);have f0:((85:Int)==(q:Int))=false:=(by rw[bf];omega);cases hn:U.numL 16 8 ((s.data.toList.take e).drop (i+2)) with
 |none=>
  have N:=hd hn;have V:Hd (Utf8.valid (-1)=false):=hd (by decide);have G:Hd (U.escR (U.escL q ((s.data.toList.take e).drop (i+1)))=([],0)):=hd <|by rw[hG,hn];rfl
  clear hG hn ec el e0 hc hq;go_enter func67,ntmps67;go_wp2_with (first
   |(go_at_call 97;refine(uletter_any 85 _ rfl _ _ (by decide) (by omega)).mono ?_;rintro e w' ⟨rfl,rfl⟩;rw[show U.pairL (ByteArray.data _).toList _=U.pairL U.pairs1 _ from rfl,PL.o];dsimp only[U.numR])
   |(go_at_call 98;refine(number16 s (i+2) 8 e _ _ _ (by omega) rfl rfl _ (by omega) (by decide) (by decide) he (by omega)).mono ?_;rintro e w' ⟨rfl,rfl⟩;rw[N.o];dsimp only[U.numR])
   |(go_at_call 99;refine(IsRune_any _ _ (by omega) (by omega)).mono ?_;rintro e w' ⟨rfl,rfl⟩;rw[V.o]))
  go_ret2;exact⟨ret_escR (by rw[G.o]) (by rw[G.o]),Below.refl _ _⟩
 |some r=>
  have N:=hd hn;have hr:r<4294967296:=Nat.lt_of_lt_of_le (U.numL_lt 16 8 _ r (by omega) hn) (by decide);cases hv:Utf8.valid (r:Int) with
  |false=>
   have V:Hd (Utf8.valid (r:Int)=false):=hd hv;have G:Hd (U.escR (U.escL q ((s.data.toList.take e).drop (i+1)))=([],0)):=hd <|by rw[hG,hn,U.runeOf_bad r _ hv];rfl
   clear hG hn ec el e0 hc hq hv;go_enter func67,ntmps67;go_wp2_with (first
    |(go_at_call 97;refine(uletter_any 85 _ rfl _ _ (by decide) (by omega)).mono ?_;rintro e w' ⟨rfl,rfl⟩;rw[show U.pairL (ByteArray.data _).toList _=U.pairL U.pairs1 _ from rfl,PL.o];dsimp only[U.numR])
    |(go_at_call 98;refine(number16 s (i+2) 8 e _ _ _ (by omega) rfl rfl _ (by omega) (by decide) (by decide) he (by omega)).mono ?_;rintro e w' ⟨rfl,rfl⟩;rw[N.o];dsimp only[U.numR])
    |(go_at_call 99;refine(IsRune_any _ _ (by omega) (by omega)).mono ?_;rintro e w' ⟨rfl,rfl⟩;rw[V.o]))
   go_ret2;exact⟨ret_escR (by rw[G.o]) (by rw[G.o]),Below.refl _ _⟩
  |true=>
   have V:Hd (Utf8.valid (r:Int)=true):=hd hv;have G:Hd (U.escR (U.escL q ((s.data.toList.take e).drop (i+1)))=((Utf8.encode (r:Int)).toList,10)):=hd <|by rw[hG,hn,U.runeOf_good r _ hv];rfl
   have F:Hd (U.formB (r:Int)=Utf8.encode (r:Int)):=hd <|by unfold U.formB;rw[if_pos hv]
   clear hG hn ec el e0 hc hq hv;go_enter func67,ntmps67;go_wp2_with (first
    |(go_at_call 97;refine(uletter_any 85 _ rfl _ _ (by decide) (by omega)).mono ?_;rintro e w' ⟨rfl,rfl⟩;rw[show U.pairL (ByteArray.data _).toList _=U.pairL U.pairs1 _ from rfl,PL.o];dsimp only[U.numR])
    |(go_at_call 98;refine(number16 s (i+2) 8 e _ _ _ (by omega) rfl rfl _ (by omega) (by decide) (by decide) he (by omega)).mono ?_;rintro e w' ⟨rfl,rfl⟩;rw[N.o];dsimp only[U.numR])
    |(go_at_call 99;refine(IsRune_any _ _ (by omega) (by omega)).mono ?_;rintro e w' ⟨rfl,rfl⟩;rw[V.o])
    |(go_at_call 100;refine(Form_any _ _ (by omega) (by omega)).mono ?_;rintro e w1 ⟨rfl,hb1⟩;rw[F.o]))
   go_ret2;exact⟨ret_escR (by rw[G.o];exact(ByteArray.toList_eq _).symm) (by rw[G.o]),hb1⟩
theorem resc_oct (q:Nat)(hq:q=34∨q=39)(s:ByteArray)(i e:Nat)(zi ze:Int)(hzi:zi=i)(hze:ze=e)(w:World)(hs:s.size≤140737488351232)(he:e≤s.size)(hi:i≤1125899906842624)(h0:i+1<e)(hc:U.isLetter (U.at' s (i+1))=false)(hc2:U.at' s (i+1)≠92∧U.at' s (i+1)≠q∧U.at' s (i+1)≠120∧U.at' s (i+1)≠117∧U.at' s (i+1)≠85) :
  Calls prog 67 #[.string s,.int .i64 zi,.int .i64 ze,.int .u8 q] w fun en w'=>en=strR (U.escR (U.escL q ((s.data.toList.take e).drop (i+1))))∧Below w.heap.size w w':=by
 subst hzi hze;have hm:i+1<s.size:=(by omega);obtain⟨c,ec,el⟩:=take_cons s e (i+1) h0 he;rw[show i+1+1=i+2 from rfl]at el;have e0:=U.at_eq s (i+1) hm;have hdt:decide ((e:Int)≤(i:Int)+1)=false:=(by rw[decide_eq_false_iff_not];omega);have hG:U.escL q ((s.data.toList.take e).drop (i+1))=(U.numL 8 3 ((s.data.toList.take e).drop (i+1))).bind fun v=>if v≤255 then some (U.byteOf v,3) else none:=by
  rw[el,U.escL,ec,hc,if_neg (by simp),if_neg (by omega),if_neg hc2.2.2.1,if_neg hc2.2.2.2.1,if_neg hc2.2.2.2.2]
 have PL:Hd (U.pairL U.pairs1 (U.at' s (i+1))=none):=hd (U.pairs1_no _ hc);have heq:((s[i+1]'hm).toNat:Int)=(U.at' s (i+1):Int):=(by rw[e0]);have g1:((U.at' s (i+1):Int)==92)=false:=(by rw[bf];omega);have g2:((U.at' s (i+1):Int)==(q:Int))=false:=(by rw[bf];omega);have g3:((U.at' s (i+1):Int)==120)=false:=(by rw[bf];omega);have g4:((U.at' s (i+1):Int)==117)=false:=(by rw[bf];omega);have g5:((U.at' s (i+1):Int)==85)=false:=(by rw[bf];omega);have c1:=fun (W:World) (a:Int)=>conv_new 1 _ [a] rfl rfl W
 simp only[List.map_cons,List.map_nil]at c1;cases hn:U.numL 8 3 ((s.data.toList.take e).drop (i+1)) with
 |none=>
  have N:=hd hn;have G:Hd (U.escR (U.escL q ((s.data.toList.take e).drop (i+1)))=([],0)):=hd <|by rw[hG,hn];rfl
  clear hG hn ec el e0 hc hq hc2;go_enter func67,ntmps67;go_wp2_with (first
   |(go_at_call 97;refine(uletter_any (U.at' s (i+1)) _ rfl _ _ (by decide) (U.at_lt s (i+1))).mono ?_;rintro e w' ⟨rfl,rfl⟩;rw[show U.pairL (ByteArray.data _).toList (U.at' s (i+1))=U.pairL U.pairs1 (U.at' s (i+1)) from rfl,PL.o];dsimp only[U.numR])
   |(go_at_call 98;refine(number8 s (i+1) 3 e _ _ _ (by omega) rfl rfl _ (by omega) (by decide) (by decide) he (by omega)).mono ?_;rintro e w' ⟨rfl,rfl⟩;rw[N.o];dsimp only[U.numR]))
  go_ret2;exact⟨ret_escR (by rw[G.o]) (by rw[G.o]),Below.refl _ _⟩
 |some r=>
  have N:=hd hn;have hr:r<512:=U.numL_lt 8 3 _ r (by omega) hn;by_cases h255:r≤255
  ·have hm2:(r:Int)%256=r:=by omega
   have G:Hd (U.escR (U.escL q ((s.data.toList.take e).drop (i+1)))=(U.byteOf r,4)):=hd <|by rw[hG,hn,Option.bind_some,if_pos h255];rfl
   clear hG hn ec el e0 hc hq hc2;go_enter func67,ntmps67;go_wp2_with (first
    |(go_at_call 97;refine(uletter_any (U.at' s (i+1)) _ rfl _ _ (by decide) (U.at_lt s (i+1))).mono ?_;rintro e w' ⟨rfl,rfl⟩;rw[show U.pairL (ByteArray.data _).toList (U.at' s (i+1))=U.pairL U.pairs1 (U.at' s (i+1)) from rfl,PL.o];dsimp only[U.numR])
    |(go_at_call 98;refine(number8 s (i+1) 3 e _ _ _ (by omega) rfl rfl _ (by omega) (by decide) (by decide) he (by omega)).mono ?_;rintro e w' ⟨rfl,rfl⟩;rw[N.o];dsimp only[U.numR]))
   go_ret2;exact⟨ret_escR (by rw[G.o];rfl) (by rw[G.o]),(Below.refl _ _).alloc (Nat.le_refl _) _⟩
  ·have G:Hd (U.escR (U.escL q ((s.data.toList.take e).drop (i+1)))=([],0)):=hd <|by rw[hG,hn,Option.bind_some,if_neg h255];rfl
   clear hG hn ec el e0 hc hq hc2;go_enter func67,ntmps67;go_wp2_with (first
    |(go_at_call 97;refine(uletter_any (U.at' s (i+1)) _ rfl _ _ (by decide) (U.at_lt s (i+1))).mono ?_;rintro e w' ⟨rfl,rfl⟩;rw[show U.pairL (ByteArray.data _).toList (U.at' s (i+1))=U.pairL U.pairs1 (U.at' s (i+1)) from rfl,PL.o];dsimp only[U.numR])
    |(go_at_call 98;refine(number8 s (i+1) 3 e _ _ _ (by omega) rfl rfl _ (by omega) (by decide) (by decide) he (by omega)).mono ?_;rintro e w' ⟨rfl,rfl⟩;rw[N.o];dsimp only[U.numR]))
   go_ret2;exact⟨ret_escR (by rw[G.o]) (by rw[G.o]),Below.refl _ _⟩
theorem resc_any (q:Nat)(hq:q=34∨q=39)(s:ByteArray)(i e:Nat)(zi ze:Int)(hzi:zi=i)(hze:ze=e)(w:World)(hs:s.size≤140737488351232)(he:e≤s.size)(hi:i≤1125899906842624) :
  Calls prog 67 #[.string s,.int .i64 zi,.int .i64 ze,.int .u8 q] w fun en w'=>en=strR (U.escR (U.escL q ((s.data.toList.take e).drop (i+1))))∧Below w.heap.size w w':=by
 by_cases h0:i+1<e
 ·cases hl:U.isLetter (U.at' s (i+1)) with
  |true=>exact resc_letter (U.at' s (i+1)) hl q hq s i e zi ze hzi hze w hs he hi h0 rfl
  |false=>
   by_cases h1:U.at' s (i+1)=92
   ·exact resc_back q hq s i e zi ze hzi hze w hs he hi h0 h1
   by_cases h2:U.at' s (i+1)=q
   ·exact resc_quote q hq s i e zi ze hzi hze w hs he hi h0 h2
   by_cases h3:U.at' s (i+1)=120
   ·exact resc_x q hq s i e zi ze hzi hze w hs he hi h0 h3
   by_cases h4:U.at' s (i+1)=117
   ·exact resc_u q hq s i e zi ze hzi hze w hs he hi h0 h4
   by_cases h5:U.at' s (i+1)=85
   ·exact resc_U q hq s i e zi ze hzi hze w hs he hi h0 h5
   exact resc_oct q hq s i e zi ze hzi hze w hs he hi h0 hl ⟨h1,h2,h3,h4,h5⟩
 ·exact resc_nil q hq s i e zi ze hzi hze w hs he hi h0
theorem refLit_34 (s:ByteArray)(i:Nat)(w:World)(hs:s.size≤1125899906842624)(hi:i<s.size)(hq:U.at' s i=34) :
  Calls prog 66 #[.string s,.int .i64 i] w fun e w'=>e=.returned (.tuple #[.int .i64 (U.litR (U.lit s 34 (i+1))).1,.int .i64 (U.litR (U.lit s 34 (i+1))).2])∧w=w':=by
 have hdd:decide (s.size≤i)=false:=(by simpa using hi);have hq':((s[i]'hi).toNat:Int)=34:=(by rw[←U.at_eq s i hi,hq];rfl);clear hq;go_enter func66,ntmps66;go_wp2
 go_loop [7] (fun x=>∃p:Nat,p≤s.size+1∧x=.int .i64 p∧Hd (U.lit s 34 p=U.lit s 34 (i+1))) (fun x=>s.size+1-(intOf x).toNat)
 case atStart=>exact⟨i+1,by omega,by go_num,hd rfl⟩
 case round=>
  obtain⟨p,hp,rfl,hl⟩:=hrel;by_cases hlt:p<s.size
  ·have ep:=U.at_eq s p hlt
   by_cases h1:U.at' s p=34
   ·have b1:(((s[p]'hlt).toNat:Int)==34)=true:=by rw[←ep,h1];rfl
    have G:Hd (U.litR (U.lit s 34 (i+1))=((p:Int)+1,0)):=hd <|by rw[←hl.o,U.lit_hit s 34 p hlt h1];rfl
    clear ep h1;go_wp2;go_ret2;exact⟨ret_twoL (by rw[G.o]) (by rw[G.o]),rfl⟩
   have b1:(((s[p]'hlt).toNat:Int)==34)=false:=(by rw[bf,←ep];omega);by_cases h2:U.at' s p=10
   ·have b2:(((s[p]'hlt).toNat:Int)==10)=true:=by rw[←ep,h2];rfl
    have G:Hd (U.litR (U.lit s 34 (i+1))=(0,10)):=hd <|by rw[←hl.o,U.lit_nl s 34 p hlt h1 (by omega) h2];rfl
    clear ep h1 h2;go_wp2;go_ret2;exact⟨ret_twoL (by rw[G.o]) (by rw[G.o]),rfl⟩
   have b2:(((s[p]'hlt).toNat:Int)==10)=false:=(by rw[bf,←ep];omega);by_cases h3:U.at' s p=92
   ·have b3:(((s[p]'hlt).toNat:Int)==92)=true:=by rw[←ep,h3];rfl
    by_cases h4:p+1<s.size
    ·have ep1:=U.at_eq s (p+1) h4
     by_cases h5:U.at' s (p+1)=10
     ·have b5:(((s[p+1]'h4).toNat:Int)==10)=true:=by rw[←ep1,h5];rfl
      have G:Hd (U.litR (U.lit s 34 (i+1))=(0,10)):=hd <|by rw[←hl.o,U.lit_esc_nl s 34 p h4 h1 (by omega) h3 h5];rfl
      clear ep ep1 h1 h2 h3 h5;go_wp2;go_ret2;exact⟨ret_twoL (by rw[G.o]) (by rw[G.o]),rfl⟩
     ·have b5:(((s[p+1]'h4).toNat:Int)==10)=false:=by rw[bf,←ep1];omega
      have G:Hd (U.lit s 34 (p+2)=U.lit s 34 (i+1)):=hd <|by rw[←hl.o,U.lit_esc s 34 p hlt h1 (by omega) h3 (fun h=>h5 h.2)]
      clear ep ep1 h1 h2 h3 h5;go_wp2
      go_round
      case rel=>exact⟨p+2,by omega,by go_num,G⟩
      case measure=>simp[intOf];omega
    ·have G:Hd (U.lit s 34 (p+2)=U.lit s 34 (i+1)):=hd <|by rw[←hl.o,U.lit_esc s 34 p hlt h1 (by omega) h3 (fun h=>h4 h.1)]
     clear ep h1 h2 h3;go_wp2
     go_round
     case rel=>exact⟨p+2,by omega,by go_num,G⟩
     case measure=>simp[intOf];omega
   ·have b3:(((s[p]'hlt).toNat:Int)==92)=false:=by rw[bf,←ep];omega
    have G:Hd (U.lit s 34 (p+1)=U.lit s 34 (i+1)):=hd <|by rw[←hl.o,U.lit_step s 34 p hlt h1 (by omega) h2 h3]
    clear ep h1 h2 h3;go_wp2
    go_round
    case rel=>exact⟨p+1,by omega,by go_num,G⟩
    case measure=>simp[intOf];omega
  ·have G:Hd (U.litR (U.lit s 34 (i+1))=(0,10)):=hd <|by rw[←hl.o,U.lit_end s 34 p hlt];rfl
   go_wp2;go_ret2;exact⟨ret_twoL (by rw[G.o]) (by rw[G.o]),rfl⟩
theorem refLit_39 (s:ByteArray)(i:Nat)(w:World)(hs:s.size≤1125899906842624)(hi:i<s.size)(hq:U.at' s i=39) :
  Calls prog 66 #[.string s,.int .i64 i] w fun e w'=>e=.returned (.tuple #[.int .i64 (U.litR (U.lit s 39 (i+1))).1,.int .i64 (U.litR (U.lit s 39 (i+1))).2])∧w=w':=by
 have hdd:decide (s.size≤i)=false:=(by simpa using hi);have hq':((s[i]'hi).toNat:Int)=39:=(by rw[←U.at_eq s i hi,hq];rfl);clear hq;go_enter func66,ntmps66;go_wp2
 go_loop [7] (fun x=>∃p:Nat,p≤s.size+1∧x=.int .i64 p∧Hd (U.lit s 39 p=U.lit s 39 (i+1))) (fun x=>s.size+1-(intOf x).toNat)
 case atStart=>exact⟨i+1,by omega,by go_num,hd rfl⟩
 case round=>
  obtain⟨p,hp,rfl,hl⟩:=hrel;by_cases hlt:p<s.size
  ·have ep:=U.at_eq s p hlt
   by_cases h1:U.at' s p=39
   ·have b1:(((s[p]'hlt).toNat:Int)==39)=true:=by rw[←ep,h1];rfl
    have G:Hd (U.litR (U.lit s 39 (i+1))=((p:Int)+1,0)):=hd <|by rw[←hl.o,U.lit_hit s 39 p hlt h1];rfl
    clear ep h1;go_wp2;go_ret2;exact⟨ret_twoL (by rw[G.o]) (by rw[G.o]),rfl⟩
   have b1:(((s[p]'hlt).toNat:Int)==39)=false:=(by rw[bf,←ep];omega);by_cases h2:U.at' s p=10
   ·have b2:(((s[p]'hlt).toNat:Int)==10)=true:=by rw[←ep,h2];rfl
    have G:Hd (U.litR (U.lit s 39 (i+1))=(0,10)):=hd <|by rw[←hl.o,U.lit_nl s 39 p hlt h1 (by omega) h2];rfl
    clear ep h1 h2;go_wp2;go_ret2;exact⟨ret_twoL (by rw[G.o]) (by rw[G.o]),rfl⟩
   have b2:(((s[p]'hlt).toNat:Int)==10)=false:=(by rw[bf,←ep];omega);by_cases h3:U.at' s p=92
   ·have b3:(((s[p]'hlt).toNat:Int)==92)=true:=by rw[←ep,h3];rfl
    by_cases h4:p+1<s.size
    ·have ep1:=U.at_eq s (p+1) h4
     by_cases h5:U.at' s (p+1)=10
     ·have b5:(((s[p+1]'h4).toNat:Int)==10)=true:=by rw[←ep1,h5];rfl
      have G:Hd (U.litR (U.lit s 39 (i+1))=(0,10)):=hd <|by rw[←hl.o,U.lit_esc_nl s 39 p h4 h1 (by omega) h3 h5];rfl
      clear ep ep1 h1 h2 h3 h5;go_wp2;go_ret2;exact⟨ret_twoL (by rw[G.o]) (by rw[G.o]),rfl⟩
     ·have b5:(((s[p+1]'h4).toNat:Int)==10)=false:=by rw[bf,←ep1];omega
      have G:Hd (U.lit s 39 (p+2)=U.lit s 39 (i+1)):=hd <|by rw[←hl.o,U.lit_esc s 39 p hlt h1 (by omega) h3 (fun h=>h5 h.2)]
      clear ep ep1 h1 h2 h3 h5;go_wp2
      go_round
      case rel=>exact⟨p+2,by omega,by go_num,G⟩
      case measure=>simp[intOf];omega
    ·have G:Hd (U.lit s 39 (p+2)=U.lit s 39 (i+1)):=hd <|by rw[←hl.o,U.lit_esc s 39 p hlt h1 (by omega) h3 (fun h=>h4 h.1)]
     clear ep h1 h2 h3;go_wp2
     go_round
     case rel=>exact⟨p+2,by omega,by go_num,G⟩
     case measure=>simp[intOf];omega
   ·have b3:(((s[p]'hlt).toNat:Int)==92)=false:=by rw[bf,←ep];omega
    have G:Hd (U.lit s 39 (p+1)=U.lit s 39 (i+1)):=hd <|by rw[←hl.o,U.lit_step s 39 p hlt h1 (by omega) h2 h3]
    clear ep h1 h2 h3;go_wp2
    go_round
    case rel=>exact⟨p+1,by omega,by go_num,G⟩
    case measure=>simp[intOf];omega
  ·have G:Hd (U.litR (U.lit s 39 (i+1))=(0,10)):=hd <|by rw[←hl.o,U.lit_end s 39 p hlt];rfl
   go_wp2;go_ret2;exact⟨ret_twoL (by rw[G.o]) (by rw[G.o]),rfl⟩
theorem refLit_96 (s:ByteArray)(i:Nat)(w:World)(hs:s.size≤1125899906842624)(hi:i<s.size)(hq:U.at' s i=96) :
  Calls prog 66 #[.string s,.int .i64 i] w fun e w'=>e=.returned (.tuple #[.int .i64 (U.litR (U.lit s 96 (i+1))).1,.int .i64 (U.litR (U.lit s 96 (i+1))).2])∧w=w':=by
 have hdd:decide (s.size≤i)=false:=(by simpa using hi);have hq':((s[i]'hi).toNat:Int)=96:=(by rw[←U.at_eq s i hi,hq];rfl);clear hq;go_enter func66,ntmps66;go_wp2
 go_loop [7] (fun x=>∃p:Nat,p≤s.size+1∧x=.int .i64 p∧Hd (U.lit s 96 p=U.lit s 96 (i+1))) (fun x=>s.size+1-(intOf x).toNat)
 case atStart=>exact⟨i+1,by omega,by go_num,hd rfl⟩
 case round=>
  obtain⟨p,hp,rfl,hl⟩:=hrel;by_cases hlt:p<s.size
  ·have ep:=U.at_eq s p hlt
   by_cases h1:U.at' s p=96
   ·have b1:(((s[p]'hlt).toNat:Int)==96)=true:=by rw[←ep,h1];rfl
    have G:Hd (U.litR (U.lit s 96 (i+1))=((p:Int)+1,0)):=hd <|by rw[←hl.o,U.lit_hit s 96 p hlt h1];rfl
    clear ep h1;go_wp2;go_ret2;exact⟨ret_twoL (by rw[G.o]) (by rw[G.o]),rfl⟩
   have b1:(((s[p]'hlt).toNat:Int)==96)=false:=(by rw[bf,←ep];omega);have G:Hd (U.lit s 96 (p+1)=U.lit s 96 (i+1)):=hd <|by rw[←hl.o,U.lit_raw s p hlt h1]
   clear ep h1;go_wp2
   go_round
   case rel=>exact⟨p+1,by omega,by go_num,G⟩
   case measure=>simp[intOf];omega
  ·have G:Hd (U.litR (U.lit s 96 (i+1))=(0,10)):=hd <|by rw[←hl.o,U.lit_end s 96 p hlt];rfl
   go_wp2;go_ret2;exact⟨ret_twoL (by rw[G.o]) (by rw[G.o]),rfl⟩
theorem refLit_no (s:ByteArray)(i:Nat)(w:World)(hs:s.size≤1125899906842624)(hi:i<s.size)(hq:U.at' s i≠34∧U.at' s i≠39∧U.at' s i≠96) :
  Calls prog 66 #[.string s,.int .i64 i] w fun e w'=>e=.returned (.tuple #[.int .i64 0,.int .i64 10])∧w=w':=by
 have hdd:decide (s.size≤i)=false:=(by simpa using hi);have ep:=U.at_eq s i hi;have b1:(((s[i]'hi).toNat:Int)!=34)=true:=(by rw[bne_iff_ne,←ep];omega);have b2:(((s[i]'hi).toNat:Int)!=39)=true:=(by rw[bne_iff_ne,←ep];omega);have b3:(((s[i]'hi).toNat:Int)!=96)=true:=(by rw[bne_iff_ne,←ep];omega);clear ep hq;go_enter func66,ntmps66;go_wp2;go_ret2;exact⟨rfl,rfl⟩
theorem refLit_any (s:ByteArray)(i:Int)(w:World)(hs:s.size≤1125899906842624) :
  Calls prog 66 #[.string s,.int .i64 i] w fun e w'=>e=.returned (.tuple #[.int .i64 (U.literal s i).1,.int .i64 (U.literal s i).2])∧w=w':=by
 by_cases h0:i<0
 ·rw[U.literal_out s i (.inl h0)]
  go_enter func66,ntmps66;go_wp2;go_ret2;exact⟨rfl,rfl⟩
 by_cases h1:(s.size:Int)≤i
 ·rw[U.literal_out s i (.inr h1)]
  go_enter func66,ntmps66;go_wp2;go_ret2;exact⟨rfl,rfl⟩
 obtain⟨n,hn⟩:=Int.eq_ofNat_of_zero_le (show 0≤i by omega);have hn':i=(n:Int):=hn;subst hn';have hi:n<s.size:=(by omega);by_cases hq:U.at' s n=34∨U.at' s n=39∨U.at' s n=96
 ·rw[U.literal_in s n hi hq]
  rcases hq with h|h|h<;>rw[h]
  ·exact refLit_34 s n w hs hi h
  ·exact refLit_39 s n w hs hi h
  ·exact refLit_96 s n w hs hi h
 ·rw[U.literal_no s n hi (by omega)]
  exact refLit_no s n w hs hi (by omega)
theorem refunq_utf (s:ByteArray)(w:World)(hs:s.size≤140737488351232)(hv:U.valid s=false) :
  Calls prog 27 #[.string s] w fun e w'=>e=strR (U.unquote s)∧Below w.heap.size w w':=by
 have V:=hd hv;have G:Hd (U.unquote s=([],4)):=hd <|by unfold U.unquote;rw[if_pos hv]
 clear hv;go_enter func27,ntmps27;go_wp2_with (go_at_call 65;refine(refValid_any _ _ (by omega)).mono ?_;rintro e w1 ⟨rfl,hb1⟩;rw[V.o])
 go_ret2;exact⟨ret_strR (by rw[G.o]) (by rw[G.o]),by assumption⟩
theorem refunq_lit (s:ByteArray)(w:World)(hs:s.size≤140737488351232)(hv:U.valid s=true)(hl:U.literal s 0≠((s.size:Int),0)) :
  Calls prog 27 #[.string s] w fun e w'=>e=strR (U.unquote s)∧Below w.heap.size w w':=by
 have V:=hd hv;have G:Hd (U.unquote s=([],10)):=hd <|by unfold U.unquote;rw[if_neg (by simp[hv]),if_pos hl]
 clear hv;by_cases h2:(U.literal s 0).2=0
 ·have h1:((U.literal s 0).1!=(s.size:Int))=true:=by
   rw[bne_iff_ne];intro h;exact hl (Prod.ext h h2)
  have h2':((U.literal s 0).2!=0)=false:=(by rw[h2];rfl);clear hl h2;go_enter func27,ntmps27;go_wp2_with (first
   |(go_at_call 65;refine(refValid_any _ _ (by omega)).mono ?_;rintro e w1 ⟨rfl,hb1⟩;rw[V.o])
   |(go_at_call 66;refine(refLit_any s 0 _ (by omega)).mono ?_;rintro e w' ⟨rfl,rfl⟩))
  go_ret2;exact⟨ret_strR (by rw[G.o]) (by rw[G.o]),by assumption⟩
 ·have h2':((U.literal s 0).2!=0)=true:=by rw[bne_iff_ne];exact h2
  clear hl h2;go_enter func27,ntmps27;go_wp2_with (first
   |(go_at_call 65;refine(refValid_any _ _ (by omega)).mono ?_;rintro e w1 ⟨rfl,hb1⟩;rw[V.o])
   |(go_at_call 66;refine(refLit_any s 0 _ (by omega)).mono ?_;rintro e w' ⟨rfl,rfl⟩))
  go_ret2;exact⟨ret_strR (by rw[G.o]) (by rw[G.o]),by assumption⟩
theorem refunq_raw (s:ByteArray)(w:World)(hs:s.size≤140737488351232)(hv:U.valid s=true)(hl:U.literal s 0=((s.size:Int),0))(hq:U.at' s 0=96) :
  Calls prog 27 #[.string s] w fun e w'=>e=strR (U.unquote s)∧Below w.heap.size w w':=by
 have V:=hd hv;have L:=hd hl;obtain⟨h2,_⟩:=U.lit_facts s hl;have G:Hd (U.unquote s=((s.extract 1 (s.size-1)).data.toList,0)):=hd <|by
  unfold U.unquote;rw[if_neg (by simp[hv]),if_neg (by simp[hl]),if_pos hq,U.ext_mid s h2]
 have e0:=U.at_eq s 0 (by omega);have hq':((s[0]'(by omega)).toNat:Int)=96:=(by rw[←e0,hq];rfl);have hz:((s.size:Int)-1).toNat=s.size-1:=(by omega);have hi1:(0:Int)<(s.size:Int):=(by omega);have hi2:(1:Int)≤(s.size:Int)-1:=(by omega);clear hv hl hq e0;go_enter func27,ntmps27;go_wp2_with (first
   |(go_at_call 65;refine(refValid_any _ _ (by omega)).mono ?_;rintro e w1 ⟨rfl,hb1⟩;rw[V.o])
   |(go_at_call 66;refine(refLit_any s 0 _ (by omega)).mono ?_;rintro e w' ⟨rfl,rfl⟩;rw[L.o]))
 go_ret2;exact⟨ret_strR (by rw[G.o]) (by rw[G.o]),by assumption⟩
theorem refunq_esc (s:ByteArray)(w:World)(hs:s.size≤140737488351232)(hv:U.valid s=true)(hl:U.literal s 0=((s.size:Int),0))(q:Nat)(hq:q=34∨q=39)(hq0:U.at' s 0=q) :
  Calls prog 27 #[.string s] w fun e w'=>e=strR (U.unquote s)∧Below w.heap.size w w':=by
 have V:=hd hv;have L:=hd hl;obtain⟨h2,_⟩:=U.lit_facts s hl;have hG:U.unquote s=U.unqR (U.unq q ((s.data.toList.take (s.size-1)).drop 1)):=by
  unfold U.unquote;rw[if_neg (by simp[hv]),if_neg (by simp[hl]),if_neg (by omega),hq0,List.drop_take,show s.size-1-1=s.size-2 from by omega]
 have e0:=U.at_eq s 0 (by omega);have hq':((s[0]'(by omega)).toNat:Int)=(q:Int):=(by rw[←e0,hq0]);have hq96:((q:Int)==96)=false:=(by rw[bf];omega);have hi1:(0:Int)<(s.size:Int):=(by omega);have HG:=hd hG;have hQ:=hd hq;clear hv hl hq e0 hG hq0;go_enter func27,ntmps27;go_wp2_with (first
   |(go_at_call 65;refine(refValid_any _ _ (by omega)).mono ?_;rintro e w1 ⟨rfl,hb1⟩;rw[V.o])
   |(go_at_call 66;refine(refLit_any s 0 _ (by omega)).mono ?_;rintro e w' ⟨rfl,rfl⟩;rw[L.o]))
 have hb1:Below w.heap.size w w1:=(by assumption);go_loopw [7,8] (fun v x wr=>∃(p:Nat) (bs:List UInt8),1≤p∧p≤s.size-1∧x=.int .i64 p∧wr.ownsRow w.heap.size 5 1 v bs.length (cellsB bs)∧Below w.heap.size w wr∧bs.length≤p∧Hd ((U.unq q ((s.data.toList.take (s.size-1)).drop p)).map (bs++·)=U.unq q ((s.data.toList.take (s.size-1)).drop 1))) (fun _ x _=>s.size-(intOf x).toNat)
 case atStart=>exact⟨1,[],Nat.le_refl _,by omega,rfl,World.ownsRow_nil _ _ _ _,hb1,by simp,hd (by simp)⟩
 case round=>
  obtain⟨p,bs,hp1,hp,rfl,how,hbw,hlen,hr⟩:=hrel;have hzr:=hbw.size;by_cases hlt:p<s.size-1
  ·have hps:p<s.size:=by omega
   obtain⟨c,hc,hdc⟩:=take_cons s (s.size-1) p hlt (by omega);have eat:=U.at_eq s p hps;by_cases h92:U.at' s p=92
   ·have b92:(((s[p]'hps).toNat:Int)!=92)=false:=by rw[←eat,h92];rfl
    cases he:U.escL q ((s.data.toList.take (s.size-1)).drop (p+1)) with
    |none=>
     have E:Hd (U.escR (U.escL q ((s.data.toList.take (s.size-1)).drop (p+1)))=([],0)):=hd <|by rw[he];rfl
     have G:Hd (U.unquote s=([],11)):=hd <|by
      rw[HG.o,←hr.o,hdc,U.unq_none q c _ (by rw[hc,h92]) he];rfl
     clear he hdc hc h92 eat hr;go_wp2_with (go_at_call 67;refine(resc_any q hQ.o s p (s.size-1) _ _ rfl (by omega) wr hs (by omega) (by omega)).mono ?_;rintro e w3 ⟨rfl,hb3⟩;unfold strR;rw[E.o])
     go_ret2;exact⟨ret_strR (by rw[G.o]) (by rw[G.o]),bel hbw hb3⟩
    |some r=>
     obtain⟨es,k⟩:=r;have hk:=U.escL_len q _ es k he;have hdl:((s.data.toList.take (s.size-1)).drop (p+1)).length=s.size-1-(p+1):=(by rw[List.length_drop,List.length_take,←Lib.size_eq];omega);have E:Hd (U.escR (U.escL q ((s.data.toList.take (s.size-1)).drop (p+1)))=(es,(k:Int)+1)):=hd <|by rw[he];rfl
     have G:Hd ((U.unq q ((s.data.toList.take (s.size-1)).drop (p+1+k))).map ((bs++es)++·)=U.unq q ((s.data.toList.take (s.size-1)).drop 1)):=hd <|by
      rw[←hr.o,hdc,U.unq_some q c _ (by rw[hc,h92]) es k he,List.drop_drop,Option.map_map];congr 1
      funext x
      simp
     have hk0:(((k:Int)+1)==0)=false:=(by rw[bf];omega);have hkb:p+1+k≤s.size-1:=(by omega);have hkl:bs.length+es.length≤p+1+k:=(by omega);have hez:(⟨es.toArray⟩:ByteArray).size=es.length:=(by rw[Lib.size_eq]);have hsz2:bs.length+(⟨es.toArray⟩:ByteArray).size≤140737488355328:=(by omega);have HEZ:=hd hez;clear he hdc hc h92 eat hr hdl hez;go_wp2_with (first
      |(go_at_call 67;refine(resc_any q hQ.o s p (s.size-1) _ _ rfl (by omega) wr hs (by omega) (by omega)).mono ?_;rintro e w3 ⟨rfl,hb3⟩;unfold strR;rw[E.o];have ho3:=own_below how hb3;have hzr3:=Nat.le_trans hzr hb3.size)
      |(at_builtin;refine wpList_app_str _ 63 9 5 underlying63 underlying9 info_u8 rfl _ _ rfl w.heap.size u7 _ _ rfl ho3 ⟨es.toArray⟩ rfl hsz2 hzr3 ?_))
     intro v3 w4 ho4 hg4;have HO:Hd (w4.ownsRow w.heap.size 5 1 v3 (bs++es).length (cellsB (bs++es))):=hd <|by rw[cellsB_app,List.length_append,←HEZ.o];exact ho4
     have hb4:Below w.heap.size w w4:=bel_grown (bel hbw (by assumption)) hg4 (fun g hg'=>(how.lt g hg').1);clear ho4 hg4;go_wp2;go_roundw
     case rel=>exact⟨p+1+k,bs++es,by omega,hkb,by rw[show ((p+1+k:Nat):Int)=(p:Int)+((k:Int)+1) by omega],HO.o,hb4,by rw[List.length_append];exact hkl,G⟩
     case measure=>simp[intOf];omega
   ·have b92:(((s[p]'hps).toNat:Int)!=92)=true:=by rw[bne_iff_ne,←eat];omega
    have G:Hd ((U.unq q ((s.data.toList.take (s.size-1)).drop (p+1))).map ((bs++[c])++·)=U.unq q ((s.data.toList.take (s.size-1)).drop 1)):=hd <|by
     rw[←hr.o,hdc,U.unq_plain q c _ (by rw[hc];exact h92),Option.map_map];congr 1
     funext x
     simp
    have heq:((s[p]'hps).toNat:Int)=(U.at' s p:Int):=(by rw[eat]);have hcc:Hd (cellsB (bs++[c])=cellsB bs++[.int .u8 (U.at' s p:Int)]):=hd <|by rw[cellsB_app];simp only[cellsB,List.map_cons,List.map_nil];rw[hc]
    rw[heq]at b92;clear hdc hc h92 eat hr;go_wp2_with (at_builtin;refine wpList_app_lit 63 5 (.int .u8 0) 1 1 underlying63 info_u8 rfl (by decide) rfl _ _ rfl w.heap.size u7 bs.length (cellsB bs) wr #[.int .u8 (U.at' s p:Int)] 1 rfl rfl how rfl ?_ ?_ ?_ hzr ?_)
    any_goals (first|omega|(simp[Value.oneCell'];done))
    intro v3 w3 ho3 hg3;have HO:Hd (w3.ownsRow w.heap.size 5 1 v3 (bs++[c]).length (cellsB (bs++[c]))):=hd <|by rw[hcc.o,List.length_append];exact ho3
    have hb3:Below w.heap.size w w3:=bel_grown hbw hg3 (fun g hg'=>(how.lt g hg').1);clear ho3 hg3;go_wp2;go_roundw
    case rel=>exact⟨p+1,bs++[c],by omega,by omega,by go_num,HO.o,hb3,by rw[List.length_append];simp;omega,G⟩
    case measure=>simp[intOf];omega
  ·have G:Hd (U.unquote s=if U.valid ⟨bs.toArray⟩ then(bs,0) else([],13)):=hd <|by
    rw[HG.o,←hr.o,List.drop_of_length_le (by rw[List.length_take,←Lib.size_eq];omega),U.unq_nil,Option.map_some,List.append_nil];rfl
   have io:=IsL.own how;have hcv:=run_string_of wr 63 9 5 underlying63 underlying5 underlying9 u7 bs.length bs io;have hcv2:∀W:World,Below wr.heap.size wr W→(convert 63 9 u7).run prog W=.ok (.string ⟨bs.toArray⟩) W:=fun W hW=>run_string_of W 63 9 5 underlying63 underlying5 underlying9 u7 bs.length bs (io.below hW)
   have hbz:(⟨bs.toArray⟩:ByteArray).size≤1125899906842624:=by
    have:(⟨bs.toArray⟩:ByteArray).size=bs.length:=(by rw[Lib.size_eq]);omega
   clear hr io;cases hvb:U.valid ⟨bs.toArray⟩ with
   |true=>
    have VB:=hd hvb;have G2:Hd (U.unquote s=(bs,0)):=hd <|by rw[G.o,hvb];rfl
    clear hvb G;go_wp2_with (go_at_call 65;refine(refValid_any _ _ hbz).mono ?_;rintro e w3 ⟨rfl,hb3⟩;rw[VB.o])
    go_ret2;exact⟨ret_strR (by rw[G2.o]) (by rw[G2.o]),bel hbw (by assumption)⟩
   |false=>
    have VB:=hd hvb;have G2:Hd (U.unquote s=([],13)):=hd <|by rw[G.o,hvb];rfl
    clear hvb G;go_wp2_with (go_at_call 65;refine(refValid_any _ _ hbz).mono ?_;rintro e w3 ⟨rfl,hb3⟩;rw[VB.o])
    go_ret2;exact⟨ret_strR (by rw[G2.o]) (by rw[G2.o]),bel hbw (by assumption)⟩
theorem refunq_any (s:ByteArray)(w:World)(hs:s.size≤140737488351232) :
  Calls prog 27 #[.string s] w fun e w'=>e=strR (U.unquote s)∧Below w.heap.size w w':=by
 cases hv:U.valid s with
 |false=>exact refunq_utf s w hs hv
 |true=>
  by_cases hl:U.literal s 0=((s.size:Int),0)
  ·rcases (U.lit_facts s hl).2 with h|h|h
   ·exact refunq_esc s w hs hv hl 34 (.inl rfl) h
   ·exact refunq_esc s w hs hv hl 39 (.inr rfl) h
   ·exact refunq_raw s w hs hv hl h
  ·exact refunq_lit s w hs hv hl
end Go.Proofs.YtieknenhfeejiaaGreatDoor
