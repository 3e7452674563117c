/- Results: how they lie in memory, and their bytes. render.out.point, weirref29.point, weirref29.data. render.out.list over the closures of render.Result. The closures of render.Result. render.Result. weirlaw29.parts. What 2.5 is told as, and a moment of 1500. Plain arithmetic. How an argument api.Result (by value) reads, under the bound. -/
import Derived.Test.YteckfdohgiddgaaGreatDoorFPrs
import Derived.Test.YteckfdohgiddgaaGreatDoorRSec
import Derived.Test.YteckfdohgiddgaaGreatDoorFRefShow
import Derived.Test.YteckfdohgiddgaaGreatDoorFDG
import Derived.Deep.RegionLaw
import Derived.BigQuiet
import Derived.Lib.SlBytesConst
import Derived.Test.YteckfdohgiddgaaGreatDoorLOp
import Derived.Lib.SmallJoins
namespace Go.Proofs.YteckfdohgiddgaaGreatDoor
open Go.RowKit
set_option linter.unusedVariables false
set_option linter.unusedSimpArgs false
open Classical in
/-- what a float is shown as -/
noncomputable def FS.tell (f : Nat) : List UInt8 := if h : ∃ s, FS.Shown f s then Classical.choose h else []
theorem FS.Shown.eq {f : Nat} {s : List UInt8} (h : FS.Shown f s) : s = FS.tell f := by
  have h2 : ∃ s, FS.Shown f s := ⟨s, h⟩
  unfold FS.tell
  rw [dif_pos h2]
  exact h.ext (Classical.choose_spec h2)
theorem FS.tell_len (f : Nat) : (FS.tell f).length ≤ 327 := by
  unfold FS.tell
  split
  · rename_i h
    exact (FS.Shown.len (Classical.choose_spec h)).1
  · simp
namespace RS
structure Pt where
  t : Int
  f : Nat
  st : Bool
structure El where
  A : Option Addr
  c : Nat
  l : List Lb
  f : Nat
def El.sl (x : El) : Value := .slice x.A x.l.length x.c
structure Sr where
  A : Option Addr
  c : Nat
  l : List Lb
  pA : Option Addr
  pc : Nat
  ps : List Pt
def Sr.sl (x : Sr) : Value := .slice x.A x.l.length x.c
def Sr.sp (x : Sr) : Value := .slice x.pA x.ps.length x.pc
/-- a row of values, read by place: m cells each -/
def Row {α : Type} (m : Nat) (enc : α → List Value) (P : World → α → Prop) (w : World) (A : Option Addr) (L : List α) : Prop :=
  ∀ i (h : i < L.length), ∃ b off, A = some ⟨b, off, none⟩ ∧ b < w.heap.size ∧ (∀ j (hj : j < (enc L[i]).length), w.cell? ⟨b, off + i * m + j, none⟩ = some ((enc L[i])[j])) ∧ P w L[i]
theorem Row.below {α : Type} {m : Nat} {enc : α → List Value} {P : World → α → Prop} {w w' : World} {A : Option Addr} {L : List α} (h : Row m enc P w A L) (hb : Below w.heap.size w w') (hP : ∀ x, P w x → P w' x) : Row m enc P w' A L := by
  intro i hi
  obtain ⟨b, off, e, hlt, hc, hp⟩ := h i hi
  exact ⟨b, off, e, Nat.lt_of_lt_of_le hlt hb.size, fun j hj => (hb.cell (p := ⟨b, off + i * m + j, none⟩) hlt).trans (hc j hj), hP _ hp⟩
def Pt.ok (x : Pt) : Prop := -9223372036854775808 ≤ x.t ∧ x.t ≤ 9223372036854775807 ∧ x.f < 18446744073709551616
def IsPs (w : World) (A : Option Addr) (L : List Pt) : Prop := Row 3 (fun x : Pt => [.int .i64 x.t, .float .f64 x.f, .bool x.st]) (fun _ x => x.ok) w A L
def SmL' (l : List Lb) : Prop := ∀ x ∈ l, x.1.size ≤ 1048576 ∧ x.2.size ≤ 1048576
def IsEs (w : World) (A : Option Addr) (L : List El) : Prop := Row 2 (fun x : El => [x.sl, .float .f64 x.f]) (fun w x => IsL 2 w x.sl x.l.length (cellsL x.l) ∧ SmL' x.l ∧ x.f < 18446744073709551616) w A L
def IsSs (w : World) (A : Option Addr) (L : List Sr) : Prop := Row 2 (fun x : Sr => [x.sl, x.sp]) (fun w x => IsL 2 w x.sl x.l.length (cellsL x.l) ∧ SmL' x.l ∧ IsPs w x.pA x.ps) w A L
theorem IsPs.below {w w' : World} {A : Option Addr} {L : List Pt} (h : IsPs w A L) (hb : Below w.heap.size w w') : IsPs w' A L := Row.below h hb fun _ h => h
theorem IsEs.below {w w' : World} {A : Option Addr} {L : List El} (h : IsEs w A L) (hb : Below w.heap.size w w') : IsEs w' A L := Row.below h hb fun _ h => ⟨h.1.below hb, h.2⟩
theorem IsSs.below {w w' : World} {A : Option Addr} {L : List Sr} (h : IsSs w A L) (hb : Below w.heap.size w w') : IsSs w' A L := Row.below h hb fun _ h => ⟨h.1.below hb, h.2.1, IsPs.below h.2.2 hb⟩
theorem IsPs.at_ {w : World} {A : Option Addr} {L : List Pt} (h : IsPs w A L) (i : Nat) (hi : i < L.length) :
    ∃ b off, A = some ⟨b, off, none⟩ ∧ b < w.heap.size ∧ w.cell? ⟨b, off + i * 3, none⟩ = some (.int .i64 L[i].t) ∧ w.cell? ⟨b, off + i * 3 + 1, none⟩ = some (.float .f64 L[i].f) ∧ w.cell? ⟨b, off + i * 3 + 2, none⟩ = some (.bool L[i].st) ∧ L[i].ok := by
  obtain ⟨b, off, e, hlt, hc, hp⟩ := h i hi
  exact ⟨b, off, e, hlt, hc 0 (by simp), hc 1 (by simp), hc 2 (by simp), hp⟩
theorem IsEs.at_ {w : World} {A : Option Addr} {L : List El} (h : IsEs w A L) (i : Nat) (hi : i < L.length) :
    ∃ b off, A = some ⟨b, off, none⟩ ∧ b < w.heap.size ∧ w.cell? ⟨b, off + i * 2, none⟩ = some L[i].sl ∧ w.cell? ⟨b, off + i * 2 + 1, none⟩ = some (.float .f64 L[i].f) ∧ IsL 2 w L[i].sl L[i].l.length (cellsL L[i].l) ∧ SmL' L[i].l ∧ L[i].f < 18446744073709551616 := by
  obtain ⟨b, off, e, hlt, hc, hp⟩ := h i hi
  exact ⟨b, off, e, hlt, hc 0 (by simp), hc 1 (by simp), hp⟩
theorem IsSs.at_ {w : World} {A : Option Addr} {L : List Sr} (h : IsSs w A L) (i : Nat) (hi : i < L.length) :
    ∃ b off, A = some ⟨b, off, none⟩ ∧ b < w.heap.size ∧ w.cell? ⟨b, off + i * 2, none⟩ = some L[i].sl ∧ w.cell? ⟨b, off + i * 2 + 1, none⟩ = some L[i].sp ∧ IsL 2 w L[i].sl L[i].l.length (cellsL L[i].l) ∧ SmL' L[i].l ∧ IsPs w L[i].pA L[i].ps := by
  obtain ⟨b, off, e, hlt, hc, hp⟩ := h i hi
  exact ⟨b, off, e, hlt, hc 0 (by simp), hc 1 (by simp), hp⟩
/-- the bytes -/
noncomputable def pt (t : Int) (f : Nat) : List UInt8 := 91 :: (T.sec t ++ 44 :: 34 :: (FS.tell f ++ [34, 93]))
def kMetric : List UInt8 := [123, 34, 109, 101, 116, 114, 105, 99, 34, 58]
def kValue : List UInt8 := [44, 34, 118, 97, 108, 117, 101, 34, 58]
def kValues : List UInt8 := [44, 34, 118, 97, 108, 117, 101, 115, 34, 58]
noncomputable def el (t : Int) (x : El) : List UInt8 := kMetric ++ R.st x.l ++ kValue ++ pt t x.f ++ [125]
noncomputable def pts (l : List Pt) : List UInt8 := R.lst (l.map fun p => pt p.t p.f)
noncomputable def se (x : Sr) : List UInt8 := kMetric ++ R.st x.l ++ kValues ++ pts x.ps ++ [125]
theorem pt_len (t : Int) (f : Nat) (h0 : -9223372036854775808 ≤ t) (h1 : t ≤ 9223372036854775807) : (pt t f).length ≤ 357 := by
  have h2 := T.sec_len t h0 h1
  have h3 := FS.tell_len f
  unfold pt
  simp only [List.length_cons, List.length_append, List.length_nil]
  omega
theorem el_len (t : Int) (x : El) (h0 : -9223372036854775808 ≤ t) (h1 : t ≤ 9223372036854775807) (hs : SmL' x.l) : (el t x).length ≤ (x.l.length + 1) * 12582918 := by
  have h2 := pt_len t x.f h0 h1
  have h3 := R.st_len x.l hs
  unfold el kMetric kValue
  simp only [List.length_cons, List.length_append, List.length_nil]
  omega
theorem pts_len (l : List Pt) (h : ∀ x ∈ l, x.ok) : (pts l).length ≤ l.length * 358 + 2 := by
  have := R.lst_len 357 (l.map fun p => pt p.t p.f) (by intro x hx; obtain ⟨y, hy, rfl⟩ := List.mem_map.1 hx; exact pt_len _ _ (h y hy).1 (h y hy).2.1)
  rw [List.length_map] at this
  exact this
theorem se_len (x : Sr) (hs : SmL' x.l) (hp : ∀ y ∈ x.ps, y.ok) : (se x).length ≤ (x.l.length + x.ps.length + 1) * 12582918 := by
  have h2 := pts_len x.ps hp
  have h3 := R.st_len x.l hs
  unfold se kMetric kValues
  simp only [List.length_cons, List.length_append, List.length_nil]
  omega
/-- weights -/
def wt {α : Type} (g : α → Nat) : List α → Nat
  | [] => 0
  | x :: l => g x + wt g l
theorem wt_app {α : Type} (g : α → Nat) : ∀ a b : List α, wt g (a ++ b) = wt g a + wt g b
  | [], b => by simp [wt]
  | x :: a, b => by rw [List.cons_append, wt, wt, wt_app g a b]; omega
theorem wt_take {α : Type} (g : α → Nat) (l : List α) (k : Nat) (h : k < l.length) : wt g (l.take (k + 1)) = wt g (l.take k) + g (l[k]'h) := by
  rw [List.take_succ_eq_append_getElem h, wt_app]; rfl
theorem wt_take_le {α : Type} (g : α → Nat) (l : List α) (k : Nat) : wt g (l.take k) ≤ wt g l := by
  have := wt_app g (l.take k) (l.drop k)
  rw [List.take_append_drop] at this
  omega
theorem wt_mem {α : Type} (g : α → Nat) : ∀ (l : List α) (x : α), x ∈ l → g x ≤ wt g l
  | y :: l, x, h => by
    rw [wt]
    rcases List.mem_cons.1 h with rfl | h
    · omega
    · have := wt_mem g l x h; omega
theorem cm_wt {α : Type} (F : α → List UInt8) (g : α → Nat) : ∀ l : List α, (∀ x ∈ l, (F x).length + 1 ≤ g x * 12582919) → (R.cm (l.map F)).length ≤ wt g l * 12582919
  | [], _ => by simp [R.cm, wt]
  | x :: l, h => by
    have h1 := cm_wt F g l (fun y hy => h y (List.mem_cons_of_mem _ hy))
    have h2 := h x (List.mem_cons_self ..)
    unfold R.cm at *
    rw [List.map_cons, List.flatMap_cons, List.length_append, List.length_cons, wt, Nat.add_mul]
    omega
theorem jn_wt {α : Type} (F : α → List UInt8) (g : α → Nat) (l : List α) (h : ∀ x ∈ l, (F x).length + 1 ≤ g x * 12582919) (k : Nat) : (R.jn ((l.map F).take k)).length ≤ wt g l * 12582919 := by
  have h1 := cm_wt F g (l.take k) (fun x hx => h x (List.mem_of_mem_take hx))
  have h2 := Nat.mul_le_mul_right 12582919 (wt_take_le g l k)
  rw [← List.map_take]
  unfold R.jn
  rw [List.length_drop]
  omega
def gE (x : El) : Nat := x.l.length + 1
def gS (x : Sr) : Nat := x.l.length + x.ps.length + 1
end RS
end Go.Proofs.YteckfdohgiddgaaGreatDoor
namespace Go.Proofs.YteckfdohgiddgaaGreatDoor
open Go.RowKit
set_option linter.unusedVariables false
set_option linter.unusedSimpArgs false
set_option maxRecDepth 100000 in
set_option maxHeartbeats 1000000 in
theorem point2_any (k : Nat) (e : TypeId) (L : List Value) (t : Int) (f : Nat) (h0 : -9223372036854775808 ≤ t) (h1 : t ≤ 9223372036854775807) (hf : f < 18446744073709551616) (w0 w : World) (g : Nat) (bs : List UInt8) (hT : Tbl w0) (hg : w0.heap.size = g) (hO : Ou w0 w g bs) (hX : Bx w g k e L) (hn : bs.length ≤ 140737480000000) :
    Calls Tryz.prog 43 #[.pointer (some ⟨g, 0, none⟩), .int .i64 t, .float .f64 f] w fun e' w' => e' = .returned (.tuple #[]) ∧ Ou w0 w' g (bs ++ RS.pt t f) ∧ Bx w' g k e L := by
  have hT1 : Tbl w := hT.below (by rw [hg]; exact hO.bel)
  have HS := hd (sec_any t h0 h1 w hT1)
  have HW := hd (fun W (hW : Below w.heap.size w W) => show_any f hf W (hT1.below hW))
  have HO := hd hO
  have HX := hd hX
  have HLT := hd hO.lt
  have l1 := T.sec_len t h0 h1
  have l2 := FS.tell_len f
  have HP : Hd (RS.pt t f = 91 :: (T.sec t ++ 44 :: 34 :: (FS.tell f ++ [34, 93]))) := hd rfl
  rw [HP.o]
  have HE := hd (fun s (h : FS.Shown f s) => h.eq)
  clear hT hT1 hO hX h0 h1 hf HP
  generalize T.sec t = a at *
  generalize FS.tell f = b at *
  go_enter Tryz.func43, Tryz.ntmps43
  go_wp2_with fail
  refine HS.o.mono ?_
  rintro e1 w1 ⟨rfl, hb1⟩
  have HB1 := hd hb1
  clear hb1
  go_wp2_with fail
  refine (HW.o _ HB1.o).mono ?_
  rintro e2 w2 ⟨s, rfl, hs, hb2⟩
  obtain rfl := HE.o s hs
  have HB2 := hd (bel HB1.o hb2)
  clear hb2 hs
  have c1 : ¬ 9223372036854775807 < 1 + a.length + 2 + s.length := by omega
  have c2 : ¬ 9223372036854775807 < 1 + a.length + 2 + s.length + 2 := by omega
  go_wp2_with fail
  have hcat : (⟨#[91]⟩ ++ ⟨a.toArray⟩ ++ ⟨#[44, 34]⟩ ++ ⟨s.toArray⟩ ++ ⟨#[34, 93]⟩ : ByteArray).data.toList = 91 :: (a ++ 44 :: 34 :: (s ++ [34, 93])) := by simp [ByteArray.data_append]
  generalize hS : (⟨#[91]⟩ ++ ⟨a.toArray⟩ ++ ⟨#[44, 34]⟩ ++ ⟨s.toArray⟩ ++ ⟨#[34, 93]⟩ : ByteArray) = S at *
  refine (put2_any k e L S w0 _ g bs (HO.o.below HB2.o) (HX.o.below HB2.o HLT.o) ?_).mono ?_
  · rw [Lib.size_eq, hcat]
    simp only [List.length_cons, List.length_append, List.length_nil]
    omega
  rintro e3 w3 ⟨rfl, hO3, hX3⟩
  rw [hcat] at hO3
  have HO3 := hd hO3
  have HX3 := hd hX3
  clear hO3 hX3 hcat hS
  go_wp2
  go_end0
  exact ⟨rfl, HO3.o, HX3.o⟩
/-- what the answer says around the result -/
def RS.head (name : List UInt8) : List UInt8 := [123, 34, 115, 116, 97, 116, 117, 115, 34, 58, 34, 115, 117, 99, 99, 101, 115, 115, 34, 44, 34, 100, 97, 116, 97, 34, 58, 123, 34, 114, 101, 115, 117, 108, 116, 84, 121, 112, 101, 34, 58, 34] ++ name ++ [34, 44, 34, 114, 101, 115, 117, 108, 116, 34, 58]
def RS.whole (name body : List UInt8) : List UInt8 := RS.head name ++ body ++ [125, 125]
end Go.Proofs.YteckfdohgiddgaaGreatDoor
namespace Go.Proofs.YteckfdohgiddgaaGreatDoor
open Go.RowKit
set_option linter.unusedVariables false
set_option linter.unusedSimpArgs false
set_option maxRecDepth 100000 in
set_option maxHeartbeats 1000000 in
theorem point_any (t : Int) (f : Nat) (h0 : -9223372036854775808 ≤ t) (h1 : t ≤ 9223372036854775807) (hf : f < 18446744073709551616) (w0 w : World) (g : Nat) (bs : List UInt8) (hT : Tbl w0) (hg : w0.heap.size = g) (hO : Ou w0 w g bs) (hn : bs.length ≤ 140737480000000) :
    Calls Tryz.prog 43 #[.pointer (some ⟨g, 0, none⟩), .int .i64 t, .float .f64 f] w fun e' w' => e' = .returned (.tuple #[]) ∧ Ou w0 w' g (bs ++ RS.pt t f) := by
  have hT1 : Tbl w := hT.below (by rw [hg]; exact hO.bel)
  have HS := hd (sec_any t h0 h1 w hT1)
  have HW := hd (fun W (hW : Below w.heap.size w W) => show_any f hf W (hT1.below hW))
  have HO := hd hO
  have HLT := hd hO.lt
  have l1 := T.sec_len t h0 h1
  have l2 := FS.tell_len f
  have HP : Hd (RS.pt t f = 91 :: (T.sec t ++ 44 :: 34 :: (FS.tell f ++ [34, 93]))) := hd rfl
  rw [HP.o]
  have HE := hd (fun s (h : FS.Shown f s) => h.eq)
  clear hT hT1 hO h0 h1 hf HP
  generalize T.sec t = a at *
  generalize FS.tell f = b at *
  go_enter Tryz.func43, Tryz.ntmps43
  go_wp2_with fail
  refine HS.o.mono ?_
  rintro e1 w1 ⟨rfl, hb1⟩
  have HB1 := hd hb1
  clear hb1
  go_wp2_with fail
  refine (HW.o _ HB1.o).mono ?_
  rintro e2 w2 ⟨s, rfl, hs, hb2⟩
  obtain rfl := HE.o s hs
  have HB2 := hd (bel HB1.o hb2)
  clear hb2 hs
  have c1 : ¬ 9223372036854775807 < 1 + a.length + 2 + s.length := by omega
  have c2 : ¬ 9223372036854775807 < 1 + a.length + 2 + s.length + 2 := by omega
  go_wp2_with fail
  have hcat : (⟨#[91]⟩ ++ ⟨a.toArray⟩ ++ ⟨#[44, 34]⟩ ++ ⟨s.toArray⟩ ++ ⟨#[34, 93]⟩ : ByteArray).data.toList = 91 :: (a ++ 44 :: 34 :: (s ++ [34, 93])) := by simp [ByteArray.data_append]
  generalize hS : (⟨#[91]⟩ ++ ⟨a.toArray⟩ ++ ⟨#[44, 34]⟩ ++ ⟨s.toArray⟩ ++ ⟨#[34, 93]⟩ : ByteArray) = S at *
  refine (put_any S w0 _ g bs (HO.o.below HB2.o) ?_).mono ?_
  · rw [Lib.size_eq, hcat]
    simp only [List.length_cons, List.length_append, List.length_nil]
    omega
  rintro e3 w3 ⟨rfl, hO3⟩
  rw [hcat] at hO3
  have HO3 := hd hO3
  clear hO3 hcat hS
  go_wp2
  go_end0
  exact ⟨rfl, HO3.o⟩
set_option maxHeartbeats 1000000 in
theorem rlist1 (X : Value) (n : Nat) (xs : List (List UInt8)) (w0 w : World) (g : Nat) (bs : List UInt8) (hxs : xs.length = n) (hO : Ou w0 w g bs) (hJ : ∀ k, k ≤ n → (R.jn (xs.take k)).length ≤ 13194149000000) (hn : bs.length ≤ 20000000000000) (hn2 : n ≤ 1048576)
    (hM : ∀ (k : Nat) (hk : k < xs.length) (cs : List UInt8) (W : World), Ou w0 W g cs → cs.length ≤ 34000000000000 → Calls Tryz.prog 47 #[.int .i64 (k : Int), .pointer (some ⟨g, 0, none⟩), X] W fun e' w' => e' = .returned (.tuple #[]) ∧ Ou w0 w' g (cs ++ xs[k])) :
    Calls Tryz.prog 46 #[.pointer (some ⟨g, 0, none⟩), .int .i64 n, .func (.func 47) #[] #[.pointer (some ⟨g, 0, none⟩), X]] w fun e' w' => e' = .returned (.tuple #[]) ∧ Ou w0 w' g (bs ++ R.lst xs) := by
  have HO := hd hO
  have HXL := hd hxs
  have HJ := hd hJ
  have HM := hd hM
  clear hO hxs hJ hM
  go_enter Tryz.func46, Tryz.ntmps46
  go_wp2_with (go_at_call 41; refine (put_any _ w0 _ g bs HO.o (by have : ByteArray.size ⟨#[91]⟩ = 1 := rfl; omega)).mono ?_; rintro e' w2 ⟨rfl, hO2⟩; have HO2 : Hd (Ou w0 w2 g (bs ++ [91])) := hd hO2; clear hO2 HO)
  go_loopw [10] (fun x w2 => ∃ (k : Nat) (cs : List UInt8), k ≤ n ∧ x = .int .i64 k ∧ Hd (cs = bs ++ 91 :: R.jn (xs.take k)) ∧ Hd (Ou w0 w2 g cs)) (fun x _ => n - (intOf x).toNat)
  case atStart => exact ⟨0, _, Nat.zero_le _, rfl, hd rfl, HO2⟩
  case round =>
    clear HO2
    obtain ⟨k, cs, hk, rfl, hcs, HO⟩ := hrel
    have hlen : cs.length ≤ 33194149001001 := by rw [hcs.o, List.length_append, List.length_cons]; have := HJ.o k hk; omega
    by_cases hlt : k < n
    · have hkx : k < xs.length := by rw [HXL.o]; exact hlt
      have HJT := hd (R.jn_take xs k hkx)
      have HMK := hd (HM.o k hkx)
      by_cases h0 : k = 0
      · have G : Hd (cs ++ xs[k] = bs ++ 91 :: R.jn (xs.take (k + 1))) := hd (by rw [HJT.o, if_pos h0, hcs.o, show R.jn (xs.take k) = [] from by rw [h0]; rfl]; simp)
        have hk0 : ¬ 0 < k := by omega
        clear HJT hcs h0
        generalize xs[k] = y at *
        go_wp2_with (go_at_call 47; refine (HMK.o cs _ HO.o (by omega)).mono ?_; rintro e' w3 ⟨rfl, hO3⟩; have HO3 := hd hO3; clear hO3)
        go_roundw
        case rel => exact ⟨k + 1, _, by omega, by go_num, G, HO3⟩
        case measure => simp [intOf]; omega
      · have G : Hd (cs ++ [44] ++ xs[k] = bs ++ 91 :: R.jn (xs.take (k + 1))) := hd (by rw [HJT.o, if_neg h0, hcs.o]; simp)
        have hk0 : 0 < k := by omega
        have hl4 : (cs ++ [44]).length ≤ 34000000000000 := by rw [List.length_append]; show cs.length + 1 ≤ _; omega
        have HL4 := hd hl4
        clear HJT hcs h0 hl4
        generalize xs[k] = y at *
        go_wp2_with (first
          | (go_at_call 41; refine (put_any _ w0 _ g cs HO.o (by have : ByteArray.size ⟨#[44]⟩ = 1 := rfl; omega)).mono ?_; rintro e' w2 ⟨rfl, hO2⟩; have HO2 : Hd (Ou w0 w2 g (cs ++ [44])) := hd hO2; clear hO2)
          | (go_at_call 47; refine (HMK.o (cs ++ [44]) _ HO2.o HL4.o).mono ?_; rintro e' w3 ⟨rfl, hO3⟩; have HO3 := hd hO3; clear hO3))
        go_roundw
        case rel => exact ⟨k + 1, _, by omega, by go_num, G, HO3⟩
        case measure => simp [intOf]; omega
    · have hkn : k = n := by omega
      subst hkn
      have HE : Hd (cs ++ [93] = bs ++ R.lst xs) := hd (by rw [hcs.o, List.take_of_length_le (by rw [HXL.o]; exact Nat.le_refl _)]; unfold R.lst; simp)
      go_wp2_with (go_at_call 41; refine (put_any _ w0 _ g cs HO.o (by have : ByteArray.size ⟨#[93]⟩ = 1 := rfl; omega)).mono ?_; rintro e' w2 ⟨rfl, hO2⟩; have HO2 : Hd (Ou w0 w2 g (bs ++ R.lst xs)) := hd (by rw [← HE.o]; exact hO2); clear hO2)
      go_end0
      exact ⟨rfl, HO2.o⟩
set_option maxHeartbeats 1000000 in
theorem rlist2 (X : Value) (n : Nat) (xs : List (List UInt8)) (w0 w : World) (g : Nat) (bs : List UInt8) (hxs : xs.length = n) (hO : Ou w0 w g bs) (hJ : ∀ k, k ≤ n → (R.jn (xs.take k)).length ≤ 13194149000000) (hn : bs.length ≤ 20000000000000) (hn2 : n ≤ 1048576)
    (hM : ∀ (k : Nat) (hk : k < xs.length) (cs : List UInt8) (W : World), Ou w0 W g cs → cs.length ≤ 34000000000000 → Calls Tryz.prog 49 #[.int .i64 (k : Int), .pointer (some ⟨g, 0, none⟩), X] W fun e' w' => e' = .returned (.tuple #[]) ∧ Ou w0 w' g (cs ++ xs[k])) :
    Calls Tryz.prog 46 #[.pointer (some ⟨g, 0, none⟩), .int .i64 n, .func (.func 49) #[] #[.pointer (some ⟨g, 0, none⟩), X]] w fun e' w' => e' = .returned (.tuple #[]) ∧ Ou w0 w' g (bs ++ R.lst xs) := by
  have HO := hd hO
  have HXL := hd hxs
  have HJ := hd hJ
  have HM := hd hM
  clear hO hxs hJ hM
  go_enter Tryz.func46, Tryz.ntmps46
  go_wp2_with (go_at_call 41; refine (put_any _ w0 _ g bs HO.o (by have : ByteArray.size ⟨#[91]⟩ = 1 := rfl; omega)).mono ?_; rintro e' w2 ⟨rfl, hO2⟩; have HO2 : Hd (Ou w0 w2 g (bs ++ [91])) := hd hO2; clear hO2 HO)
  go_loopw [10] (fun x w2 => ∃ (k : Nat) (cs : List UInt8), k ≤ n ∧ x = .int .i64 k ∧ Hd (cs = bs ++ 91 :: R.jn (xs.take k)) ∧ Hd (Ou w0 w2 g cs)) (fun x _ => n - (intOf x).toNat)
  case atStart => exact ⟨0, _, Nat.zero_le _, rfl, hd rfl, HO2⟩
  case round =>
    clear HO2
    obtain ⟨k, cs, hk, rfl, hcs, HO⟩ := hrel
    have hlen : cs.length ≤ 33194149001001 := by rw [hcs.o, List.length_append, List.length_cons]; have := HJ.o k hk; omega
    by_cases hlt : k < n
    · have hkx : k < xs.length := by rw [HXL.o]; exact hlt
      have HJT := hd (R.jn_take xs k hkx)
      have HMK := hd (HM.o k hkx)
      by_cases h0 : k = 0
      · have G : Hd (cs ++ xs[k] = bs ++ 91 :: R.jn (xs.take (k + 1))) := hd (by rw [HJT.o, if_pos h0, hcs.o, show R.jn (xs.take k) = [] from by rw [h0]; rfl]; simp)
        have hk0 : ¬ 0 < k := by omega
        clear HJT hcs h0
        generalize xs[k] = y at *
        go_wp2_with (go_at_call 49; refine (HMK.o cs _ HO.o (by omega)).mono ?_; rintro e' w3 ⟨rfl, hO3⟩; have HO3 := hd hO3; clear hO3)
        go_roundw
        case rel => exact ⟨k + 1, _, by omega, by go_num, G, HO3⟩
        case measure => simp [intOf]; omega
      · have G : Hd (cs ++ [44] ++ xs[k] = bs ++ 91 :: R.jn (xs.take (k + 1))) := hd (by rw [HJT.o, if_neg h0, hcs.o]; simp)
        have hk0 : 0 < k := by omega
        have hl4 : (cs ++ [44]).length ≤ 34000000000000 := by rw [List.length_append]; show cs.length + 1 ≤ _; omega
        have HL4 := hd hl4
        clear HJT hcs h0 hl4
        generalize xs[k] = y at *
        go_wp2_with (first
          | (go_at_call 41; refine (put_any _ w0 _ g cs HO.o (by have : ByteArray.size ⟨#[44]⟩ = 1 := rfl; omega)).mono ?_; rintro e' w2 ⟨rfl, hO2⟩; have HO2 : Hd (Ou w0 w2 g (cs ++ [44])) := hd hO2; clear hO2)
          | (go_at_call 49; refine (HMK.o (cs ++ [44]) _ HO2.o HL4.o).mono ?_; rintro e' w3 ⟨rfl, hO3⟩; have HO3 := hd hO3; clear hO3))
        go_roundw
        case rel => exact ⟨k + 1, _, by omega, by go_num, G, HO3⟩
        case measure => simp [intOf]; omega
    · have hkn : k = n := by omega
      subst hkn
      have HE : Hd (cs ++ [93] = bs ++ R.lst xs) := hd (by rw [hcs.o, List.take_of_length_le (by rw [HXL.o]; exact Nat.le_refl _)]; unfold R.lst; simp)
      go_wp2_with (go_at_call 41; refine (put_any _ w0 _ g cs HO.o (by have : ByteArray.size ⟨#[93]⟩ = 1 := rfl; omega)).mono ?_; rintro e' w2 ⟨rfl, hO2⟩; have HO2 : Hd (Ou w0 w2 g (bs ++ R.lst xs)) := hd (by rw [← HE.o]; exact hO2); clear hO2)
      go_end0
      exact ⟨rfl, HO2.o⟩
set_option maxHeartbeats 1000000 in
theorem rlist21 (kb : Nat) (eb : TypeId) (Lb0 : List Value) (X : Value) (n : Nat) (xs : List (List UInt8)) (w0 w : World) (g : Nat) (bs : List UInt8) (hxs : xs.length = n) (hO : Ou w0 w g bs) (hX : Bx w g kb eb Lb0) (hJ : ∀ k, k ≤ n → (R.jn (xs.take k)).length ≤ 13194149000000) (hn : bs.length ≤ 50000000000000) (hn2 : n ≤ 1048576)
    (hM : ∀ (k : Nat) (hk : k < xs.length) (cs : List UInt8) (W : World), Ou w0 W g cs → Bx W g kb eb Lb0 → cs.length ≤ 64000000000000 → Calls Tryz.prog 50 #[.int .i64 (k : Int), .pointer (some ⟨g, 0, none⟩), X] W fun e' w' => e' = .returned (.tuple #[]) ∧ Ou w0 w' g (cs ++ xs[k]) ∧ Bx w' g kb eb Lb0) :
    Calls Tryz.prog 46 #[.pointer (some ⟨g, 0, none⟩), .int .i64 n, .func (.func 50) #[] #[.pointer (some ⟨g, 0, none⟩), X]] w fun e' w' => e' = .returned (.tuple #[]) ∧ Ou w0 w' g (bs ++ R.lst xs) ∧ Bx w' g kb eb Lb0 := by
  have HO := hd hO
  have HX := hd hX
  have HXL := hd hxs
  have HJ := hd hJ
  have HM := hd hM
  clear hO hX hxs hJ hM
  go_enter Tryz.func46, Tryz.ntmps46
  go_wp2_with (go_at_call 41; refine (put2_any kb eb Lb0 _ w0 _ g bs HO.o HX.o (by have : ByteArray.size ⟨#[91]⟩ = 1 := rfl; omega)).mono ?_; rintro e' w2 ⟨rfl, hO2, hX2⟩; have HO2 : Hd (Ou w0 w2 g (bs ++ [91])) := hd hO2; have HX2 := hd hX2; clear hX2; clear hO2 HO)
  go_loopw [10] (fun x w2 => ∃ (k : Nat) (cs : List UInt8), k ≤ n ∧ x = .int .i64 k ∧ Hd (cs = bs ++ 91 :: R.jn (xs.take k)) ∧ Hd (Ou w0 w2 g cs) ∧ Hd (Bx w2 g kb eb Lb0)) (fun x _ => n - (intOf x).toNat)
  case atStart => exact ⟨0, _, Nat.zero_le _, rfl, hd rfl, HO2, HX2⟩
  case round =>
    clear HO2 HX HX2
    obtain ⟨k, cs, hk, rfl, hcs, HO, HXk⟩ := hrel
    have hlen : cs.length ≤ 63194149001001 := by rw [hcs.o, List.length_append, List.length_cons]; have := HJ.o k hk; omega
    by_cases hlt : k < n
    · have hkx : k < xs.length := by rw [HXL.o]; exact hlt
      have HJT := hd (R.jn_take xs k hkx)
      have HMK := hd (HM.o k hkx)
      by_cases h0 : k = 0
      · have G : Hd (cs ++ xs[k] = bs ++ 91 :: R.jn (xs.take (k + 1))) := hd (by rw [HJT.o, if_pos h0, hcs.o, show R.jn (xs.take k) = [] from by rw [h0]; rfl]; simp)
        have hk0 : ¬ 0 < k := by omega
        clear HJT hcs h0
        generalize xs[k] = y at *
        go_wp2_with (go_at_call 50; refine (HMK.o cs _ HO.o HXk.o (by omega)).mono ?_; rintro e' w3 ⟨rfl, hO3, hX3⟩; have HO3 := hd hO3; have HX3 := hd hX3; clear hX3; clear hO3)
        go_roundw
        case rel => exact ⟨k + 1, _, by omega, by go_num, G, HO3, HX3⟩
        case measure => simp [intOf]; omega
      · have G : Hd (cs ++ [44] ++ xs[k] = bs ++ 91 :: R.jn (xs.take (k + 1))) := hd (by rw [HJT.o, if_neg h0, hcs.o]; simp)
        have hk0 : 0 < k := by omega
        have hl4 : (cs ++ [44]).length ≤ 64000000000000 := by rw [List.length_append]; show cs.length + 1 ≤ _; omega
        have HL4 := hd hl4
        clear HJT hcs h0 hl4
        generalize xs[k] = y at *
        go_wp2_with (first
          | (go_at_call 41; refine (put2_any kb eb Lb0 _ w0 _ g cs HO.o HXk.o (by have : ByteArray.size ⟨#[44]⟩ = 1 := rfl; omega)).mono ?_; rintro e' w2 ⟨rfl, hO2, hX2⟩; have HO2 : Hd (Ou w0 w2 g (cs ++ [44])) := hd hO2; have HX2 := hd hX2; clear hX2; clear hO2)
          | (go_at_call 50; refine (HMK.o (cs ++ [44]) _ HO2.o HX2.o HL4.o).mono ?_; rintro e' w3 ⟨rfl, hO3, hX3⟩; have HO3 := hd hO3; have HX3 := hd hX3; clear hX3; clear hO3))
        go_roundw
        case rel => exact ⟨k + 1, _, by omega, by go_num, G, HO3, HX3⟩
        case measure => simp [intOf]; omega
    · have hkn : k = n := by omega
      subst hkn
      have HE : Hd (cs ++ [93] = bs ++ R.lst xs) := hd (by rw [hcs.o, List.take_of_length_le (by rw [HXL.o]; exact Nat.le_refl _)]; unfold R.lst; simp)
      go_wp2_with (go_at_call 41; refine (put2_any kb eb Lb0 _ w0 _ g cs HO.o HXk.o (by have : ByteArray.size ⟨#[93]⟩ = 1 := rfl; omega)).mono ?_; rintro e' w2 ⟨rfl, hO2, hX2⟩; have HO2 : Hd (Ou w0 w2 g (bs ++ R.lst xs)) := hd (by rw [← HE.o]; exact hO2); have HX2 := hd hX2; clear hX2; clear hO2)
      go_end0
      exact ⟨rfl, HO2.o, HX2.o⟩
end Go.Proofs.YteckfdohgiddgaaGreatDoor
namespace Go.Proofs.YteckfdohgiddgaaGreatDoor
open Go.RowKit
set_option linter.unusedVariables false
set_option linter.unusedSimpArgs false
set_option maxRecDepth 100000 in
set_option maxHeartbeats 1000000 in
theorem clo21_any (hb : Nat) (A : Option Addr) (c : Nat) (L : List RS.Pt) (w0 w : World) (g : Nat) (cs : List UInt8) (k : Nat) (hk : k < L.length) (hT : Tbl w0) (hg : w0.heap.size = g) (hP : RS.IsPs w0 A L) (hO : Ou w0 w g cs) (hX : Bx w g hb 70 [.slice A L.length c]) (hn : cs.length ≤ 64000000000000) :
    Calls Tryz.prog 50 #[.int .i64 (k : Int), .pointer (some ⟨g, 0, none⟩), .pointer (some ⟨hb, 0, none⟩)] w fun e' w' => e' = .returned (.tuple #[]) ∧ Ou w0 w' g (cs ++ RS.pt L[k].t L[k].f) ∧ Bx w' g hb 70 [.slice A L.length c] := by
  obtain ⟨b, off, rfl, hbl, q0, q1, q2, ok1, ok2, ok3⟩ := hP.at_ k hk
  have c0 := hX.1.cell 0 (by simp)
  simp only [List.getElem_cons_zero] at c0
  have d0 := (hO.bel.cell (p := ⟨b, off + k * 3, none⟩) (show b < g by omega)).trans q0
  have d1 := (hO.bel.cell (p := ⟨b, off + k * 3 + 1, none⟩) (show b < g by omega)).trans q1
  have HO := hd hO
  have HX := hd hX
  have HT := hd hT
  have HK1 := hd ok1
  have HK2 := hd ok2
  have HK3 := hd ok3
  clear hT hO hX q0 q1 q2 ok1 ok2 ok3 hP
  generalize L[k] = p at *
  generalize L.length = n at *
  go_enter Tryz.func50, Tryz.ntmps50
  have HOD := hd (HO.o.below (Below.refl w.heap.size w).drew)
  have HXD : Hd (Bx w.drew g hb 70 [.slice (some ⟨b, off, none⟩) n c]) := hd ⟨HX.o.1.below (Below.refl w.heap.size w).drew, HX.o.2⟩
  go_wp2_with fail
  go_region_law (go_simp; go_at_call 43; refine (point2_any hb 70 [.slice (some ⟨b, off, none⟩) n c] p.t p.f HK1.o HK2.o HK3.o w0 _ g cs HT.o hg HOD.o HXD.o (by omega)).mono ?_; rintro e' w2 ⟨rfl, hO2, hX2⟩; have HO2 := hd hO2; have HX2 := hd hX2; clear hO2 hX2)
  all_goals go_wp2
  all_goals go_end0
  all_goals exact ⟨rfl, HO2.o, HX2.o⟩
set_option maxRecDepth 100000 in
set_option maxHeartbeats 2000000 in
theorem clo1_any (rb : Nat) (t : Int) (A : Option Addr) (c : Nat) (L : List RS.El) (w0 w : World) (g : Nat) (cs : List UInt8) (k : Nat) (hk : k < L.length) (h0 : -9223372036854775808 ≤ t) (h1 : t ≤ 9223372036854775807) (hT : Tbl w0) (hg : w0.heap.size = g) (hP : RS.IsEs w0 A L) (hO : Ou w0 w g cs) (hrb : rb < g) (hc1 : w0.cell? ⟨rb, 1, none⟩ = some (.int .i64 t)) (hc4 : w0.cell? ⟨rb, 4, none⟩ = some (.slice A L.length c)) (hn : cs.length ≤ 34000000000000) (hn2 : L[k].l.length ≤ 1048576) :
    Calls Tryz.prog 47 #[.int .i64 (k : Int), .pointer (some ⟨g, 0, none⟩), .pointer (some ⟨rb, 0, none⟩)] w fun e' w' => e' = .returned (.tuple #[]) ∧ Ou w0 w' g (cs ++ RS.el t L[k]) := by
  obtain ⟨b, off, rfl, hbl, q0, q1, hL, hS, hf⟩ := hP.at_ k hk
  have HB : Hd (∀ W bs, Ou w0 W g bs → W.cell? ⟨rb, 4, none⟩ = some (.slice (some ⟨b, off, none⟩) L.length c) ∧ W.cell? ⟨rb, 1, none⟩ = some (.int .i64 t) ∧ W.cell? ⟨b, off + k * 2, none⟩ = some L[k].sl ∧ W.cell? ⟨b, off + k * 2 + 1, none⟩ = some (.float .f64 L[k].f)) := hd fun W bs h => ⟨(h.bel.cell (p := ⟨rb, 4, none⟩) hrb).trans hc4, (h.bel.cell (p := ⟨rb, 1, none⟩) hrb).trans hc1, (h.bel.cell (p := ⟨b, off + k * 2, none⟩) (show b < g by omega)).trans q0, (h.bel.cell (p := ⟨b, off + k * 2 + 1, none⟩) (show b < g by omega)).trans q1⟩
  have HE : Hd (RS.el t L[k] = RS.kMetric ++ R.st L[k].l ++ RS.kValue ++ RS.pt t L[k].f ++ [125]) := hd rfl
  have hst := R.st_len L[k].l hS
  have hpt := RS.pt_len t L[k].f h0 h1
  have HST : Hd ((R.st L[k].l).length ≤ 14000000000000) := hd (by omega)
  have HO := hd hO
  have HT := hd hT
  have HL := hd hL
  have HS := hd hS
  have HF := hd hf
  have H0 := hd h0
  have H1 := hd h1
  rw [HE.o]
  clear hT hO q0 q1 hL hS hf hP h0 h1 hc1 hc4 HE hst
  unfold RS.El.sl at HB HL
  generalize L[k] = x at *
  generalize L.length = n at *
  obtain ⟨xA, xc, xl, xf⟩ := x
  simp only at HB HL HS HF hn2 hpt HST ⊢
  go_enter Tryz.func47, Tryz.ntmps47
  go_wp2_with fail
  refine (put_any _ w0 _ g cs HO.o (by have : ByteArray.size ⟨#[123, 34, 109, 101, 116, 114, 105, 99, 34, 58]⟩ = 10 := rfl; omega)).mono ?_
  rintro e w1 ⟨rfl, hO1⟩
  have HO1 : Hd (Ou w0 w1 g (cs ++ RS.kMetric)) := hd hO1
  clear hO1 HO
  obtain ⟨a4, a1, al, af⟩ := HB.o _ _ HO1.o
  have e1 : (cs ++ RS.kMetric).length = cs.length + 10 := by rw [List.length_append]; rfl
  go_wp2_with fail
  refine (labels_any xl _ xl.length w0 _ g (cs ++ RS.kMetric) HL.o hg HO1.o HS.o (by omega) hn2).mono ?_
  rintro e w2 ⟨rfl, hO2⟩
  have HO2 := hd hO2
  clear hO2 a4 a1 al af
  have e2 : (cs ++ RS.kMetric ++ R.st xl).length = cs.length + 10 + (R.st xl).length := by rw [List.length_append, e1]
  have hst := HST.o
  go_wp2_with fail
  refine (put_any _ w0 _ g (cs ++ RS.kMetric ++ R.st xl) HO2.o (by have : ByteArray.size ⟨#[44, 34, 118, 97, 108, 117, 101, 34, 58]⟩ = 9 := rfl; omega)).mono ?_
  rintro e w3 ⟨rfl, hO3⟩
  have HO3 : Hd (Ou w0 w3 g (cs ++ RS.kMetric ++ R.st xl ++ RS.kValue)) := hd hO3
  clear hO3
  have e3 : (cs ++ RS.kMetric ++ R.st xl ++ RS.kValue).length = cs.length + 10 + (R.st xl).length + 9 := by rw [List.length_append, e2]; rfl
  obtain ⟨a4, a1, al, af⟩ := HB.o _ _ HO3.o
  have HOD := hd (HO3.o.below (Below.refl w3.heap.size w3).drew)
  have HLN : Hd ((cs ++ RS.kMetric ++ R.st xl ++ RS.kValue).length ≤ 140737480000000) := hd (by omega)
  go_wp2_with fail
  go_region_law (go_simp; go_at_call 43; refine (point_any t xf H0.o H1.o HF.o w0 _ g (cs ++ RS.kMetric ++ R.st xl ++ RS.kValue) HT.o hg HOD.o HLN.o).mono ?_; rintro e' w4 ⟨rfl, hO4⟩; have HO4 := hd hO4; clear hO4)
  all_goals go_wp2_with fail
  all_goals refine (put_any ⟨#[125]⟩ w0 _ g (cs ++ RS.kMetric ++ R.st xl ++ RS.kValue ++ RS.pt t xf) HO4.o (by have : ByteArray.size ⟨#[125]⟩ = 1 := rfl; rw [List.length_append, e3]; omega)).mono ?_
  all_goals rintro e w5 ⟨rfl, hO5⟩
  all_goals have HO5 : Hd (Ou w0 w5 g (cs ++ (RS.kMetric ++ R.st xl ++ RS.kValue ++ RS.pt t xf ++ [125]))) := hd (by simpa only [List.append_assoc] using hO5)
  all_goals clear hO5
  all_goals go_wp2
  all_goals go_end0
  all_goals exact ⟨rfl, HO5.o⟩
theorem RS.pts_jn (l : List RS.Pt) (h : ∀ x ∈ l, x.ok) (k : Nat) : (R.jn ((l.map fun p => RS.pt p.t p.f).take k)).length ≤ k * 358 :=
  R.jn_len 357 k _ (by intro x hx; obtain ⟨y, hy, rfl⟩ := List.mem_map.1 hx; exact RS.pt_len _ _ (h y hy).1 (h y hy).2.1)
set_option maxRecDepth 100000 in
set_option maxHeartbeats 2000000 in
theorem clo2_any (rb : Nat) (A : Option Addr) (c : Nat) (L : List RS.Sr) (w0 w : World) (g : Nat) (cs : List UInt8) (k : Nat) (hk : k < L.length) (hT : Tbl w0) (hg : w0.heap.size = g) (hP : RS.IsSs w0 A L) (hO : Ou w0 w g cs) (hrb : rb < g) (hc5 : w0.cell? ⟨rb, 5, none⟩ = some (.slice A L.length c)) (hn : cs.length ≤ 34000000000000) (hn2 : L[k].l.length ≤ 1048576) (hn3 : L[k].ps.length ≤ 1048576) :
    Calls Tryz.prog 49 #[.int .i64 (k : Int), .pointer (some ⟨g, 0, none⟩), .pointer (some ⟨rb, 0, none⟩)] w fun e' w' => e' = .returned (.tuple #[]) ∧ Ou w0 w' g (cs ++ RS.se L[k]) := by
  obtain ⟨b, off, rfl, hbl, q0, q1, hL, hS, hps⟩ := hP.at_ k hk
  have HB : Hd (∀ W bs, Ou w0 W g bs → W.cell? ⟨rb, 5, none⟩ = some (.slice (some ⟨b, off, none⟩) L.length c) ∧ W.cell? ⟨b, off + k * 2, none⟩ = some L[k].sl ∧ W.cell? ⟨b, off + k * 2 + 1, none⟩ = some L[k].sp) := hd fun W bs h => ⟨(h.bel.cell (p := ⟨rb, 5, none⟩) hrb).trans hc5, (h.bel.cell (p := ⟨b, off + k * 2, none⟩) (show b < g by omega)).trans q0, (h.bel.cell (p := ⟨b, off + k * 2 + 1, none⟩) (show b < g by omega)).trans q1⟩
  have HE : Hd (RS.se L[k] = RS.kMetric ++ R.st L[k].l ++ RS.kValues ++ RS.pts L[k].ps ++ [125]) := hd rfl
  have hst := R.st_len L[k].l hS
  have hok : ∀ x ∈ L[k].ps, x.ok := fun x hx => by obtain ⟨i, hi, rfl⟩ := List.mem_iff_getElem.1 hx; exact (hps.at_ i hi).choose_spec.choose_spec.2.2.2.2.2
  have hpt := RS.pts_len L[k].ps hok
  have HST : Hd ((R.st L[k].l).length ≤ 14000000000000) := hd (by omega)
  have HJ := hd (RS.pts_jn L[k].ps hok)
  have HO := hd hO
  have HT := hd hT
  have HL := hd hL
  have HS := hd hS
  have HP := hd hps
  rw [HE.o]
  clear hT hO q0 q1 hL hS hps hP hc5 HE hst hok
  unfold RS.Sr.sl RS.Sr.sp at HB
  unfold RS.Sr.sl at HL
  generalize L[k] = x at *
  generalize L.length = n at *
  obtain ⟨xA, xc, xl, pA, pc, ps⟩ := x
  simp only at HB HL HS HP HJ hn2 hn3 hpt HST ⊢
  go_enter Tryz.func49, Tryz.ntmps49
  go_wp2_with fail
  refine (put_any _ w0 _ g cs HO.o (by have : ByteArray.size ⟨#[123, 34, 109, 101, 116, 114, 105, 99, 34, 58]⟩ = 10 := rfl; omega)).mono ?_
  rintro e w1 ⟨rfl, hO1⟩
  have HO1 : Hd (Ou w0 w1 g (cs ++ RS.kMetric)) := hd hO1
  clear hO1 HO
  obtain ⟨a5, al, ap⟩ := HB.o _ _ HO1.o
  have e1 : (cs ++ RS.kMetric).length = cs.length + 10 := by rw [List.length_append]; rfl
  go_wp2_with fail
  refine (labels_any xl _ xl.length w0 _ g (cs ++ RS.kMetric) HL.o hg HO1.o HS.o (by omega) hn2).mono ?_
  rintro e w2 ⟨rfl, hO2⟩
  have HO2 := hd hO2
  clear hO2 a5 al ap
  have e2 : (cs ++ RS.kMetric ++ R.st xl).length = cs.length + 10 + (R.st xl).length := by rw [List.length_append, e1]
  have hst := HST.o
  go_wp2_with fail
  refine (put_any _ w0 _ g (cs ++ RS.kMetric ++ R.st xl) HO2.o (by have : ByteArray.size ⟨#[44, 34, 118, 97, 108, 117, 101, 115, 34, 58]⟩ = 10 := rfl; omega)).mono ?_
  rintro e w3 ⟨rfl, hO3⟩
  have HO3 : Hd (Ou w0 w3 g (cs ++ RS.kMetric ++ R.st xl ++ RS.kValues)) := hd hO3
  clear hO3
  have e3 : (cs ++ RS.kMetric ++ R.st xl ++ RS.kValues).length = cs.length + 10 + (R.st xl).length + 10 := by rw [List.length_append, e2]; rfl
  obtain ⟨a5, al, ap⟩ := HB.o _ _ HO3.o
  obtain ⟨hb, hhb⟩ : ∃ hb, hb = w3.heap.size := ⟨_, rfl⟩
  have HO4 := hd (HO3.o.below ((Below.refl w3.heap.size w3).alloc (Nat.le_refl _) (.cells #[.slice pA ps.length pc] 70)))
  have HX4 : Hd (Bx (w3.alloc (.cells #[.slice pA ps.length pc] 70)) g hb 70 [.slice pA ps.length pc]) := hd <| by
    refine ⟨?_, by have := HO3.o.lt; omega, by decide⟩
    show (w3.heap.push (.cells #[.slice pA ps.length pc] 70))[hb]? = _
    rw [hhb]; simp
  have e0 := HX4.o.1.cell 0 (by simp)
  simp only [List.getElem_cons_zero] at e0
  rw [hhb] at e0
  go_wp2_with fail
  have HW0 : Hd (Below g w0 (w3.alloc (.cells #[.slice pA ps.length pc] 70))) := hd HO4.o.bel
  have HL4 : Hd ((cs ++ RS.kMetric ++ R.st xl ++ RS.kValues).length ≤ 50000000000000) := hd (by omega)
  refine (rlist21 hb 70 [.slice pA ps.length pc] (.pointer (some ⟨w3.heap.size, 0, none⟩)) ps.length (ps.map fun p => RS.pt p.t p.f) w0 _ g (cs ++ RS.kMetric ++ R.st xl ++ RS.kValues) (by rw [List.length_map]) HO4.o HX4.o (fun k hk => Nat.le_trans (HJ.o k) (by omega)) HL4.o hn3 ?_).mono ?_
  · intro j hj cs' W hO' hX' hlen'
    rw [List.length_map] at hj
    rw [List.getElem_map, ← hhb]
    exact clo21_any hb pA pc ps w0 W g cs' j hj HT.o hg HP.o hO' hX' hlen'
  rintro e w5 ⟨rfl, hO5, hX5⟩
  have HO5 : Hd (Ou w0 w5 g (cs ++ RS.kMetric ++ R.st xl ++ RS.kValues ++ RS.pts ps)) := hd hO5
  clear hO5 hX5
  go_wp2_with fail
  refine (put_any ⟨#[125]⟩ w0 _ g (cs ++ RS.kMetric ++ R.st xl ++ RS.kValues ++ RS.pts ps) HO5.o (by have : ByteArray.size ⟨#[125]⟩ = 1 := rfl; rw [List.length_append, e3]; omega)).mono ?_
  rintro e w6 ⟨rfl, hO6⟩
  have HO6 : Hd (Ou w0 w6 g (cs ++ (RS.kMetric ++ R.st xl ++ RS.kValues ++ RS.pts ps ++ [125]))) := hd (by simpa only [List.append_assoc] using hO6)
  clear hO6
  go_wp2
  go_end0
  exact ⟨rfl, HO6.o⟩
end Go.Proofs.YteckfdohgiddgaaGreatDoor
namespace Go.Proofs.YteckfdohgiddgaaGreatDoor
open Go.RowKit
set_option linter.unusedVariables false
set_option linter.unusedSimpArgs false
namespace RS
structure Res where
  ty : Int
  t : Int
  v : Nat
  tx : ByteArray
  eA : Option Addr
  ec : Nat
  E : List El
  sA : Option Addr
  sc : Nat
  S : List Sr
def Res.cells (r : Res) : List Value := [.int .i64 r.ty, .int .i64 r.t, .float .f64 r.v, .string r.tx, .slice r.eA r.E.length r.ec, .slice r.sA r.S.length r.sc]
def Res.val (r : Res) : Value := .agg r.cells.toArray
def null : List UInt8 := [123, 34, 115, 116, 97, 116, 117, 115, 34, 58, 34, 115, 117, 99, 99, 101, 115, 115, 34, 44, 34, 100, 97, 116, 97, 34, 58, 110, 117, 108, 108, 125]
def nScalar : List UInt8 := [115, 99, 97, 108, 97, 114]
def nString : List UInt8 := [115, 116, 114, 105, 110, 103]
def nVector : List UInt8 := [118, 101, 99, 116, 111, 114]
def nMatrix : List UInt8 := [109, 97, 116, 114, 105, 120]
noncomputable def bytes (r : Res) : List UInt8 :=
  if r.ty = 1 then whole nScalar (pt r.t r.v) else
  if r.ty = 2 then whole nString (91 :: (T.sec r.t ++ 44 :: (R.t r.tx ++ [93]))) else
  if r.ty = 3 then whole nVector (R.lst (r.E.map (el r.t))) else
  if r.ty = 4 then whole nMatrix (R.lst (r.S.map se)) else null
/-- what is asked of a result -/
structure Res.Ok (w : World) (r : Res) : Prop where
  T : Tbl w
  t0 : -9223372036854775808 ≤ r.t
  t1 : r.t ≤ 9223372036854775807
  v : r.v < 18446744073709551616
  tx : r.tx.size ≤ 1048576
  E : IsEs w r.eA r.E
  S : IsSs w r.sA r.S
  wE : wt gE r.E ≤ 1048576
  wS : wt gS r.S ≤ 1048576
theorem Res.Ok.below {w w' : World} {r : Res} (h : r.Ok w) (hb : Below w.heap.size w w') : r.Ok w' := ⟨h.T.below hb, h.t0, h.t1, h.v, h.tx, h.E.below hb, h.S.below hb, h.wE, h.wS⟩
theorem wt_len {α : Type} (g : α → Nat) : ∀ l : List α, (∀ x ∈ l, 1 ≤ g x) → l.length ≤ wt g l
  | [], _ => Nat.le_refl _
  | x :: l, h => by
    have := wt_len g l (fun y hy => h y (List.mem_cons_of_mem _ hy))
    have := h x (List.mem_cons_self ..)
    rw [List.length_cons, wt]; omega
theorem Res.Ok.nE {w : World} {r : Res} (h : r.Ok w) : r.E.length ≤ 1048576 := Nat.le_trans (wt_len gE r.E (fun x _ => by unfold gE; omega)) h.wE
theorem Res.Ok.nS {w : World} {r : Res} (h : r.Ok w) : r.S.length ≤ 1048576 := Nat.le_trans (wt_len gS r.S (fun x _ => by unfold gS; omega)) h.wS
theorem Res.Ok.eB {w : World} {r : Res} (h : r.Ok w) : ∀ x ∈ r.E, (el r.t x).length + 1 ≤ gE x * 12582919 := fun x hx => by
  obtain ⟨i, hi, rfl⟩ := List.mem_iff_getElem.1 hx
  obtain ⟨_, _, _, _, _, _, _, hs, _⟩ := h.E.at_ i hi
  have := el_len r.t r.E[i] h.t0 h.t1 hs
  unfold gE
  omega
theorem Res.Ok.sB {w : World} {r : Res} (h : r.Ok w) : ∀ x ∈ r.S, (se x).length + 1 ≤ gS x * 12582919 := fun x hx => by
  obtain ⟨i, hi, rfl⟩ := List.mem_iff_getElem.1 hx
  obtain ⟨_, _, _, _, _, _, _, hs, hp⟩ := h.S.at_ i hi
  have := se_len r.S[i] hs (fun y hy => by obtain ⟨j, hj, rfl⟩ := List.mem_iff_getElem.1 hy; exact (hp.at_ j hj).choose_spec.choose_spec.2.2.2.2.2)
  unfold gS
  omega
theorem Res.Ok.eJ {w : World} {r : Res} (h : r.Ok w) (k : Nat) : (R.jn ((r.E.map (el r.t)).take k)).length ≤ 13194149000000 := by
  have h1 := jn_wt (el r.t) gE r.E h.eB k
  have h2 := Nat.mul_le_mul_right 12582919 h.wE
  omega
theorem Res.Ok.sJ {w : World} {r : Res} (h : r.Ok w) (k : Nat) : (R.jn ((r.S.map se).take k)).length ≤ 13194149000000 := by
  have h1 := jn_wt se gS r.S h.sB k
  have h2 := Nat.mul_le_mul_right 12582919 h.wS
  omega
theorem lst_le {xs : List (List UInt8)} (h : ∀ k, (R.jn (xs.take k)).length ≤ 13194149000000) : (R.lst xs).length ≤ 13194149000002 := by
  have := h xs.length
  rw [List.take_of_length_le (Nat.le_refl _)] at this
  unfold R.lst
  rw [List.length_append, List.length_cons, List.length_singleton]
  omega
theorem head_len (n : List UInt8) : (head n).length = 53 + n.length := by
  unfold head
  rw [List.length_append, List.length_append]
  simp only [List.length_cons, List.length_nil]
  omega
end RS
def RS.pre : List UInt8 := [123, 34, 115, 116, 97, 116, 117, 115, 34, 58, 34, 115, 117, 99, 99, 101, 115, 115, 34, 44, 34, 100, 97, 116, 97, 34, 58]
theorem tname0 (ty : Int) (h1 : (ty == 1) = false) (h2 : (ty == 2) = false) (h3 : (ty == 3) = false) (h4 : (ty == 4) = false) (w : World) : Calls Tryz.prog 42 #[.int .i64 ty] w fun e w' => e = .returned (.tuple #[.string ⟨#[]⟩, .bool false]) ∧ w' = w := by
  go_enter Tryz.func42, Tryz.ntmps42
  go_wp2
  go_ret2
  exact ⟨rfl, rfl⟩
theorem tname1 (w : World) : Calls Tryz.prog 42 #[.int .i64 1] w fun e w' => e = .returned (.tuple #[.string ⟨#[115, 99, 97, 108, 97, 114]⟩, .bool true]) ∧ w' = w := by
  go_enter Tryz.func42, Tryz.ntmps42
  go_wp2
  go_ret2
  exact ⟨rfl, rfl⟩
theorem tname2 (w : World) : Calls Tryz.prog 42 #[.int .i64 2] w fun e w' => e = .returned (.tuple #[.string ⟨#[115, 116, 114, 105, 110, 103]⟩, .bool true]) ∧ w' = w := by
  go_enter Tryz.func42, Tryz.ntmps42
  go_wp2
  go_ret2
  exact ⟨rfl, rfl⟩
theorem tname3 (w : World) : Calls Tryz.prog 42 #[.int .i64 3] w fun e w' => e = .returned (.tuple #[.string ⟨#[118, 101, 99, 116, 111, 114]⟩, .bool true]) ∧ w' = w := by
  go_enter Tryz.func42, Tryz.ntmps42
  go_wp2
  go_ret2
  exact ⟨rfl, rfl⟩
theorem tname4 (w : World) : Calls Tryz.prog 42 #[.int .i64 4] w fun e w' => e = .returned (.tuple #[.string ⟨#[109, 97, 116, 114, 105, 120]⟩, .bool true]) ∧ w' = w := by
  go_enter Tryz.func42, Tryz.ntmps42
  go_wp2
  go_ret2
  exact ⟨rfl, rfl⟩
set_option maxRecDepth 100000 in
set_option maxHeartbeats 2000000 in
theorem res1_own (r : RS.Res) (w : World) (hk : r.Ok w) (ht : r.ty = 1) :
    Calls Tryz.prog 13 #[r.val] w fun e w' => (∃ v m, e = .returned v ∧ w'.ownsRow w.heap.size 5 1 v m (cellsB (RS.bytes r))) ∧ Below w.heap.size w w' := by
  obtain ⟨W, hW⟩ : ∃ W, W = w.alloc (.cells r.cells.toArray 26) := ⟨_, rfl⟩
  have HBW : Hd (Below w.heap.size w W) := hd (by rw [hW]; exact (Below.refl _ _).alloc (Nat.le_refl _) _)
  have hWz : W.heap.size = w.heap.size + 1 := by rw [hW]; simp
  have HK := hd (hk.below HBW.o)
  have HBX : Hd (∀ W' bs, Ou W W' (w.heap.size + 1) bs → ∀ j (hj : j < 6), W'.cell? ⟨w.heap.size, j, none⟩ = some (r.cells[j]'hj)) := hd fun W' bs h j hj => by
    rw [h.bel.cell (p := ⟨w.heap.size, j, none⟩) (Nat.lt_succ_self _), hW, World.cell?_alloc_mark, ← Array.getElem?_toList, List.getElem?_eq_getElem hj]
  have HBX0 : Hd (∀ j (hj : j < 6), W.cell? ⟨w.heap.size, j, none⟩ = some (r.cells[j]'hj)) := hd fun j hj => by
    rw [hW, World.cell?_alloc_mark, ← Array.getElem?_toList, List.getElem?_eq_getElem hj]
  have HO0 : Hd (Ou W (W.alloc (.cells #[.slice none 0 0] 89)) (w.heap.size + 1) []) := hd <| by
    refine ⟨⟨none, 0, 0, ?_, ⟨rfl, .inl ⟨rfl, rfl⟩⟩, rfl⟩, ?_⟩
    · show (W.heap.push (.cells #[.slice none 0 0] 89))[w.heap.size + 1]? = _
      rw [← hWz]; simp
    · exact (Below.refl _ _).alloc (by omega) _
  clear hk
  obtain ⟨ty, t, v, tx, eA, ec, E, sA, sc, S⟩ := r
  simp only at ht HK
  subst ht
  have HA : Hd (RS.bytes ⟨1, t, v, tx, eA, ec, E, sA, sc, S⟩ = RS.whole RS.nScalar (RS.pt t v)) := hd (by unfold RS.bytes; simp)
  rw [HA.o]
  clear HA
  unfold RS.Res.val
  unfold RS.Res.cells at HBX HBX0 hW ⊢
  go_enter Tryz.func13, Tryz.ntmps13
  go_wp2_with fail
  rw [← hW]
  clear hW
  refine (put_any _ W _ (w.heap.size + 1) [] HO0.o (by decide)).mono ?_
  rintro e w1 ⟨rfl, hO1⟩
  have HO1 : Hd (Ou W w1 (w.heap.size + 1) RS.pre) := hd hO1
  clear hO1 HO0
  have b0 := HBX.o _ _ HO1.o 0 (by decide)
  simp only [List.getElem_cons_zero] at b0
  go_wp2_with fail
  refine (tname1 _).mono ?_
  rintro e w2 ⟨rfl, rfl⟩
  go_wp2_with fail
  refine (put_any _ W _ (w.heap.size + 1) RS.pre HO1.o (by decide)).mono ?_
  rintro e w3 ⟨rfl, hO3⟩
  have HO3 : Hd (Ou W w3 (w.heap.size + 1) (RS.head RS.nScalar)) := hd hO3
  clear hO3 HO1 b0
  have hh := RS.head_len RS.nScalar
  have hnm : (RS.nScalar).length = 6 := rfl
  have b0 := HBX.o _ _ HO3.o 0 (by decide)
  have b1 := HBX.o _ _ HO3.o 1 (by decide)
  have b2 := HBX.o _ _ HO3.o 2 (by decide)
  have b3 := HBX.o _ _ HO3.o 3 (by decide)
  have b4 := HBX.o _ _ HO3.o 4 (by decide)
  have b5 := HBX.o _ _ HO3.o 5 (by decide)
  simp only [List.getElem_cons_zero, List.getElem_cons_succ] at b0 b1 b2 b3 b4 b5
  go_wp2_with fail
  refine (point_any t v HK.o.t0 HK.o.t1 HK.o.v W _ (w.heap.size + 1) (RS.head RS.nScalar) HK.o.T hWz HO3.o (by omega)).mono ?_
  rintro e w4 ⟨rfl, hO4⟩
  have HB1 := hd hO4
  have HLEN : Hd ((RS.pt t v).length ≤ 13194149000002) := hd (by have := RS.pt_len t v HK.o.t0 HK.o.t1; omega)
  clear hO4 HO3
  go_wp2_with fail
  refine (put_any ⟨#[125, 125]⟩ W _ (w.heap.size + 1) (RS.head RS.nScalar ++ RS.pt t v) HB1.o ?_).mono ?_
  · have h1 := HLEN.o
    have : ByteArray.size ⟨#[125, 125]⟩ = 2 := rfl
    rw [List.length_append]
    omega
  rintro e w8 ⟨rfl, hO8⟩
  have hO9 : Ou W w8 (w.heap.size + 1) (RS.whole RS.nScalar (RS.pt t v)) := hO8
  clear hO8
  obtain ⟨A', n', c', k1, k2, k3⟩ := hO9.ex
  have e0 := k1.cell 0 (by simp)
  simp only [List.getElem_cons_zero] at e0
  have HQ : Hd (w8.ownsRow w.heap.size 5 1 (.slice A' n' c') n' (cellsB (RS.whole RS.nScalar (RS.pt t v)))) := hd (by subst k3; exact own_mono k2 (by omega))
  have HB3 : Hd (Below w.heap.size w w8) := hd (HBW.o.trans (hO9.bel.mono (by omega)))
  clear hO9 k1 k2 k3 HB1
  go_wp2
  go_ret
  exact ⟨⟨_, _, rfl, HQ.o⟩, HB3.o⟩
set_option maxRecDepth 100000 in
set_option maxHeartbeats 2000000 in
theorem res2_own (r : RS.Res) (w : World) (hk : r.Ok w) (ht : r.ty = 2) :
    Calls Tryz.prog 13 #[r.val] w fun e w' => (∃ v m, e = .returned v ∧ w'.ownsRow w.heap.size 5 1 v m (cellsB (RS.bytes r))) ∧ Below w.heap.size w w' := by
  obtain ⟨W, hW⟩ : ∃ W, W = w.alloc (.cells r.cells.toArray 26) := ⟨_, rfl⟩
  have HBW : Hd (Below w.heap.size w W) := hd (by rw [hW]; exact (Below.refl _ _).alloc (Nat.le_refl _) _)
  have hWz : W.heap.size = w.heap.size + 1 := by rw [hW]; simp
  have HK := hd (hk.below HBW.o)
  have HBX : Hd (∀ W' bs, Ou W W' (w.heap.size + 1) bs → ∀ j (hj : j < 6), W'.cell? ⟨w.heap.size, j, none⟩ = some (r.cells[j]'hj)) := hd fun W' bs h j hj => by
    rw [h.bel.cell (p := ⟨w.heap.size, j, none⟩) (Nat.lt_succ_self _), hW, World.cell?_alloc_mark, ← Array.getElem?_toList, List.getElem?_eq_getElem hj]
  have HBX0 : Hd (∀ j (hj : j < 6), W.cell? ⟨w.heap.size, j, none⟩ = some (r.cells[j]'hj)) := hd fun j hj => by
    rw [hW, World.cell?_alloc_mark, ← Array.getElem?_toList, List.getElem?_eq_getElem hj]
  have HO0 : Hd (Ou W (W.alloc (.cells #[.slice none 0 0] 89)) (w.heap.size + 1) []) := hd <| by
    refine ⟨⟨none, 0, 0, ?_, ⟨rfl, .inl ⟨rfl, rfl⟩⟩, rfl⟩, ?_⟩
    · show (W.heap.push (.cells #[.slice none 0 0] 89))[w.heap.size + 1]? = _
      rw [← hWz]; simp
    · exact (Below.refl _ _).alloc (by omega) _
  clear hk
  obtain ⟨ty, t, v, tx, eA, ec, E, sA, sc, S⟩ := r
  simp only at ht HK
  subst ht
  have HA : Hd (RS.bytes ⟨2, t, v, tx, eA, ec, E, sA, sc, S⟩ = RS.whole RS.nString ((91 :: (T.sec t ++ 44 :: (R.t tx ++ [93]))))) := hd (by unfold RS.bytes; simp)
  rw [HA.o]
  clear HA
  unfold RS.Res.val
  unfold RS.Res.cells at HBX HBX0 hW ⊢
  go_enter Tryz.func13, Tryz.ntmps13
  go_wp2_with fail
  rw [← hW]
  clear hW
  refine (put_any _ W _ (w.heap.size + 1) [] HO0.o (by decide)).mono ?_
  rintro e w1 ⟨rfl, hO1⟩
  have HO1 : Hd (Ou W w1 (w.heap.size + 1) RS.pre) := hd hO1
  clear hO1 HO0
  have b0 := HBX.o _ _ HO1.o 0 (by decide)
  simp only [List.getElem_cons_zero] at b0
  go_wp2_with fail
  refine (tname2 _).mono ?_
  rintro e w2 ⟨rfl, rfl⟩
  go_wp2_with fail
  refine (put_any _ W _ (w.heap.size + 1) RS.pre HO1.o (by decide)).mono ?_
  rintro e w3 ⟨rfl, hO3⟩
  have HO3 : Hd (Ou W w3 (w.heap.size + 1) (RS.head RS.nString)) := hd hO3
  clear hO3 HO1 b0
  have hh := RS.head_len RS.nString
  have hnm : (RS.nString).length = 6 := rfl
  have b0 := HBX.o _ _ HO3.o 0 (by decide)
  have b1 := HBX.o _ _ HO3.o 1 (by decide)
  have b2 := HBX.o _ _ HO3.o 2 (by decide)
  have b3 := HBX.o _ _ HO3.o 3 (by decide)
  have b4 := HBX.o _ _ HO3.o 4 (by decide)
  have b5 := HBX.o _ _ HO3.o 5 (by decide)
  simp only [List.getElem_cons_zero, List.getElem_cons_succ] at b0 b1 b2 b3 b4 b5
  go_wp2_with fail
  have hsl := T.sec_len t HK.o.t0 HK.o.t1
  refine (sec_any t HK.o.t0 HK.o.t1 _ (HK.o.T.below (by rw [hWz]; exact HO3.o.bel))).mono ?_
  rintro e w4 ⟨rfl, hb4⟩
  have HO4 := hd (HO3.o.below hb4)
  clear hb4 HO3
  go_wp2_with fail
  have hc1 : (⟨#[91]⟩ ++ ⟨(T.sec t).toArray⟩ ++ ⟨#[44]⟩ : ByteArray).data.toList = 91 :: (T.sec t ++ [44]) := by simp [ByteArray.data_append]
  generalize (⟨#[91]⟩ ++ ⟨(T.sec t).toArray⟩ ++ ⟨#[44]⟩ : ByteArray) = q at *
  refine (put_any q W _ (w.heap.size + 1) (RS.head RS.nString) HO4.o ?_).mono ?_
  · rw [Lib.size_eq, hc1]
    simp only [List.length_cons, List.length_append, List.length_nil]
    omega
  rintro e w5 ⟨rfl, hO5⟩
  rw [hc1] at hO5
  have HO5 := hd hO5
  clear hO5 HO4 b0 b1 b2 b3 b4 b5
  have b3 := HBX.o _ _ HO5.o 3 (by decide)
  simp only [List.getElem_cons_zero, List.getElem_cons_succ] at b3
  go_wp2_with fail
  refine (rtext_any tx W _ (w.heap.size + 1) _ HO5.o HK.o.tx ?_).mono ?_
  · simp only [List.length_cons, List.length_append, List.length_nil]
    omega
  rintro e w6 ⟨rfl, hO6⟩
  have HO6 := hd hO6
  clear hO6 HO5
  have htl := R.t_len tx
  have htx := HK.o.tx
  go_wp2_with fail
  refine (put_any ⟨#[93]⟩ W _ (w.heap.size + 1) _ HO6.o ?_).mono ?_
  · have : ByteArray.size ⟨#[93]⟩ = 1 := rfl
    simp only [List.length_cons, List.length_append, List.length_nil]
    omega
  rintro e w7 ⟨rfl, hO7⟩
  have HB1 : Hd (Ou W w7 (w.heap.size + 1) (RS.head RS.nString ++ (91 :: (T.sec t ++ 44 :: (R.t tx ++ [93]))))) := hd (by simpa using hO7)
  have HLEN : Hd ((91 :: (T.sec t ++ 44 :: (R.t tx ++ [93]))).length ≤ 13194149000002) := hd (by simp only [List.length_cons, List.length_append, List.length_nil]; omega)
  clear hO7 HO6
  go_wp2_with fail
  refine (put_any ⟨#[125, 125]⟩ W _ (w.heap.size + 1) (RS.head RS.nString ++ (91 :: (T.sec t ++ 44 :: (R.t tx ++ [93])))) HB1.o ?_).mono ?_
  · have h1 := HLEN.o
    have : ByteArray.size ⟨#[125, 125]⟩ = 2 := rfl
    rw [List.length_append]
    omega
  rintro e w8 ⟨rfl, hO8⟩
  have hO9 : Ou W w8 (w.heap.size + 1) (RS.whole RS.nString ((91 :: (T.sec t ++ 44 :: (R.t tx ++ [93]))))) := hO8
  clear hO8
  obtain ⟨A', n', c', k1, k2, k3⟩ := hO9.ex
  have e0 := k1.cell 0 (by simp)
  simp only [List.getElem_cons_zero] at e0
  have HQ : Hd (w8.ownsRow w.heap.size 5 1 (.slice A' n' c') n' (cellsB (RS.whole RS.nString ((91 :: (T.sec t ++ 44 :: (R.t tx ++ [93]))))))) := hd (by subst k3; exact own_mono k2 (by omega))
  have HB3 : Hd (Below w.heap.size w w8) := hd (HBW.o.trans (hO9.bel.mono (by omega)))
  clear hO9 k1 k2 k3 HB1
  go_wp2
  go_ret
  exact ⟨⟨_, _, rfl, HQ.o⟩, HB3.o⟩
set_option maxRecDepth 100000 in
set_option maxHeartbeats 2000000 in
theorem res3_own (r : RS.Res) (w : World) (hk : r.Ok w) (ht : r.ty = 3) :
    Calls Tryz.prog 13 #[r.val] w fun e w' => (∃ v m, e = .returned v ∧ w'.ownsRow w.heap.size 5 1 v m (cellsB (RS.bytes r))) ∧ Below w.heap.size w w' := by
  obtain ⟨W, hW⟩ : ∃ W, W = w.alloc (.cells r.cells.toArray 26) := ⟨_, rfl⟩
  have HBW : Hd (Below w.heap.size w W) := hd (by rw [hW]; exact (Below.refl _ _).alloc (Nat.le_refl _) _)
  have hWz : W.heap.size = w.heap.size + 1 := by rw [hW]; simp
  have HK := hd (hk.below HBW.o)
  have HBX : Hd (∀ W' bs, Ou W W' (w.heap.size + 1) bs → ∀ j (hj : j < 6), W'.cell? ⟨w.heap.size, j, none⟩ = some (r.cells[j]'hj)) := hd fun W' bs h j hj => by
    rw [h.bel.cell (p := ⟨w.heap.size, j, none⟩) (Nat.lt_succ_self _), hW, World.cell?_alloc_mark, ← Array.getElem?_toList, List.getElem?_eq_getElem hj]
  have HBX0 : Hd (∀ j (hj : j < 6), W.cell? ⟨w.heap.size, j, none⟩ = some (r.cells[j]'hj)) := hd fun j hj => by
    rw [hW, World.cell?_alloc_mark, ← Array.getElem?_toList, List.getElem?_eq_getElem hj]
  have HO0 : Hd (Ou W (W.alloc (.cells #[.slice none 0 0] 89)) (w.heap.size + 1) []) := hd <| by
    refine ⟨⟨none, 0, 0, ?_, ⟨rfl, .inl ⟨rfl, rfl⟩⟩, rfl⟩, ?_⟩
    · show (W.heap.push (.cells #[.slice none 0 0] 89))[w.heap.size + 1]? = _
      rw [← hWz]; simp
    · exact (Below.refl _ _).alloc (by omega) _
  clear hk
  obtain ⟨ty, t, v, tx, eA, ec, E, sA, sc, S⟩ := r
  simp only at ht HK
  subst ht
  have HA : Hd (RS.bytes ⟨3, t, v, tx, eA, ec, E, sA, sc, S⟩ = RS.whole RS.nVector (R.lst (E.map (RS.el t)))) := hd (by unfold RS.bytes; simp)
  rw [HA.o]
  clear HA
  unfold RS.Res.val
  unfold RS.Res.cells at HBX HBX0 hW ⊢
  go_enter Tryz.func13, Tryz.ntmps13
  go_wp2_with fail
  rw [← hW]
  clear hW
  refine (put_any _ W _ (w.heap.size + 1) [] HO0.o (by decide)).mono ?_
  rintro e w1 ⟨rfl, hO1⟩
  have HO1 : Hd (Ou W w1 (w.heap.size + 1) RS.pre) := hd hO1
  clear hO1 HO0
  have b0 := HBX.o _ _ HO1.o 0 (by decide)
  simp only [List.getElem_cons_zero] at b0
  go_wp2_with fail
  refine (tname3 _).mono ?_
  rintro e w2 ⟨rfl, rfl⟩
  go_wp2_with fail
  refine (put_any _ W _ (w.heap.size + 1) RS.pre HO1.o (by decide)).mono ?_
  rintro e w3 ⟨rfl, hO3⟩
  have HO3 : Hd (Ou W w3 (w.heap.size + 1) (RS.head RS.nVector)) := hd hO3
  clear hO3 HO1 b0
  have hh := RS.head_len RS.nVector
  have hnm : (RS.nVector).length = 6 := rfl
  have b0 := HBX.o _ _ HO3.o 0 (by decide)
  have b1 := HBX.o _ _ HO3.o 1 (by decide)
  have b2 := HBX.o _ _ HO3.o 2 (by decide)
  have b3 := HBX.o _ _ HO3.o 3 (by decide)
  have b4 := HBX.o _ _ HO3.o 4 (by decide)
  have b5 := HBX.o _ _ HO3.o 5 (by decide)
  simp only [List.getElem_cons_zero, List.getElem_cons_succ] at b0 b1 b2 b3 b4 b5
  go_wp2_with fail
  have HH : Hd ((RS.head RS.nVector).length ≤ 20000000000000) := hd (by omega)
  refine (rlist1 (.pointer (some ⟨w.heap.size, 0, none⟩)) E.length (E.map (RS.el t)) W _ (w.heap.size + 1) (RS.head RS.nVector) (by rw [List.length_map]) HO3.o (fun k _ => HK.o.eJ k) HH.o HK.o.nE ?_).mono ?_
  · intro j hj cs' W' hO' hlen'
    rw [List.length_map] at hj
    rw [List.getElem_map]
    have hw : E[j].l.length + 1 ≤ RS.wt RS.gE E := RS.wt_mem RS.gE E E[j] (List.getElem_mem hj)
    have hw2 := HK.o.wE
    exact clo1_any w.heap.size t eA ec E W W' (w.heap.size + 1) cs' j hj HK.o.t0 HK.o.t1 HK.o.T hWz HK.o.E hO' (Nat.lt_succ_self _) (HBX0.o 1 (by decide)) (HBX0.o 4 (by decide)) hlen' (by simp only at hw2; omega)
  rintro e w4 ⟨rfl, hO4⟩
  have HB1 := hd hO4
  have HLEN := hd (RS.lst_le HK.o.eJ)
  clear hO4 HO3
  go_wp2_with fail
  refine (put_any ⟨#[125, 125]⟩ W _ (w.heap.size + 1) (RS.head RS.nVector ++ R.lst (E.map (RS.el t))) HB1.o ?_).mono ?_
  · have h1 := HLEN.o
    have : ByteArray.size ⟨#[125, 125]⟩ = 2 := rfl
    rw [List.length_append]
    omega
  rintro e w8 ⟨rfl, hO8⟩
  have hO9 : Ou W w8 (w.heap.size + 1) (RS.whole RS.nVector (R.lst (E.map (RS.el t)))) := hO8
  clear hO8
  obtain ⟨A', n', c', k1, k2, k3⟩ := hO9.ex
  have e0 := k1.cell 0 (by simp)
  simp only [List.getElem_cons_zero] at e0
  have HQ : Hd (w8.ownsRow w.heap.size 5 1 (.slice A' n' c') n' (cellsB (RS.whole RS.nVector (R.lst (E.map (RS.el t)))))) := hd (by subst k3; exact own_mono k2 (by omega))
  have HB3 : Hd (Below w.heap.size w w8) := hd (HBW.o.trans (hO9.bel.mono (by omega)))
  clear hO9 k1 k2 k3 HB1
  go_wp2
  go_ret
  exact ⟨⟨_, _, rfl, HQ.o⟩, HB3.o⟩
set_option maxRecDepth 100000 in
set_option maxHeartbeats 2000000 in
theorem res4_own (r : RS.Res) (w : World) (hk : r.Ok w) (ht : r.ty = 4) :
    Calls Tryz.prog 13 #[r.val] w fun e w' => (∃ v m, e = .returned v ∧ w'.ownsRow w.heap.size 5 1 v m (cellsB (RS.bytes r))) ∧ Below w.heap.size w w' := by
  obtain ⟨W, hW⟩ : ∃ W, W = w.alloc (.cells r.cells.toArray 26) := ⟨_, rfl⟩
  have HBW : Hd (Below w.heap.size w W) := hd (by rw [hW]; exact (Below.refl _ _).alloc (Nat.le_refl _) _)
  have hWz : W.heap.size = w.heap.size + 1 := by rw [hW]; simp
  have HK := hd (hk.below HBW.o)
  have HBX : Hd (∀ W' bs, Ou W W' (w.heap.size + 1) bs → ∀ j (hj : j < 6), W'.cell? ⟨w.heap.size, j, none⟩ = some (r.cells[j]'hj)) := hd fun W' bs h j hj => by
    rw [h.bel.cell (p := ⟨w.heap.size, j, none⟩) (Nat.lt_succ_self _), hW, World.cell?_alloc_mark, ← Array.getElem?_toList, List.getElem?_eq_getElem hj]
  have HBX0 : Hd (∀ j (hj : j < 6), W.cell? ⟨w.heap.size, j, none⟩ = some (r.cells[j]'hj)) := hd fun j hj => by
    rw [hW, World.cell?_alloc_mark, ← Array.getElem?_toList, List.getElem?_eq_getElem hj]
  have HO0 : Hd (Ou W (W.alloc (.cells #[.slice none 0 0] 89)) (w.heap.size + 1) []) := hd <| by
    refine ⟨⟨none, 0, 0, ?_, ⟨rfl, .inl ⟨rfl, rfl⟩⟩, rfl⟩, ?_⟩
    · show (W.heap.push (.cells #[.slice none 0 0] 89))[w.heap.size + 1]? = _
      rw [← hWz]; simp
    · exact (Below.refl _ _).alloc (by omega) _
  clear hk
  obtain ⟨ty, t, v, tx, eA, ec, E, sA, sc, S⟩ := r
  simp only at ht HK
  subst ht
  have HA : Hd (RS.bytes ⟨4, t, v, tx, eA, ec, E, sA, sc, S⟩ = RS.whole RS.nMatrix (R.lst (S.map RS.se))) := hd (by unfold RS.bytes; simp)
  rw [HA.o]
  clear HA
  unfold RS.Res.val
  unfold RS.Res.cells at HBX HBX0 hW ⊢
  go_enter Tryz.func13, Tryz.ntmps13
  go_wp2_with fail
  rw [← hW]
  clear hW
  refine (put_any _ W _ (w.heap.size + 1) [] HO0.o (by decide)).mono ?_
  rintro e w1 ⟨rfl, hO1⟩
  have HO1 : Hd (Ou W w1 (w.heap.size + 1) RS.pre) := hd hO1
  clear hO1 HO0
  have b0 := HBX.o _ _ HO1.o 0 (by decide)
  simp only [List.getElem_cons_zero] at b0
  go_wp2_with fail
  refine (tname4 _).mono ?_
  rintro e w2 ⟨rfl, rfl⟩
  go_wp2_with fail
  refine (put_any _ W _ (w.heap.size + 1) RS.pre HO1.o (by decide)).mono ?_
  rintro e w3 ⟨rfl, hO3⟩
  have HO3 : Hd (Ou W w3 (w.heap.size + 1) (RS.head RS.nMatrix)) := hd hO3
  clear hO3 HO1 b0
  have hh := RS.head_len RS.nMatrix
  have hnm : (RS.nMatrix).length = 6 := rfl
  have b0 := HBX.o _ _ HO3.o 0 (by decide)
  have b1 := HBX.o _ _ HO3.o 1 (by decide)
  have b2 := HBX.o _ _ HO3.o 2 (by decide)
  have b3 := HBX.o _ _ HO3.o 3 (by decide)
  have b4 := HBX.o _ _ HO3.o 4 (by decide)
  have b5 := HBX.o _ _ HO3.o 5 (by decide)
  simp only [List.getElem_cons_zero, List.getElem_cons_succ] at b0 b1 b2 b3 b4 b5
  go_wp2_with fail
  have HH : Hd ((RS.head RS.nMatrix).length ≤ 20000000000000) := hd (by omega)
  refine (rlist2 (.pointer (some ⟨w.heap.size, 0, none⟩)) S.length (S.map RS.se) W _ (w.heap.size + 1) (RS.head RS.nMatrix) (by rw [List.length_map]) HO3.o (fun k _ => HK.o.sJ k) HH.o HK.o.nS ?_).mono ?_
  · intro j hj cs' W' hO' hlen'
    rw [List.length_map] at hj
    rw [List.getElem_map]
    have hw : S[j].l.length + S[j].ps.length + 1 ≤ RS.wt RS.gS S := RS.wt_mem RS.gS S S[j] (List.getElem_mem hj)
    have hw2 := HK.o.wS
    exact clo2_any w.heap.size sA sc S W W' (w.heap.size + 1) cs' j hj HK.o.T hWz HK.o.S hO' (Nat.lt_succ_self _) (HBX0.o 5 (by decide)) hlen' (by simp only at hw2; omega) (by simp only at hw2; omega)
  rintro e w4 ⟨rfl, hO4⟩
  have HB1 := hd hO4
  have HLEN := hd (RS.lst_le HK.o.sJ)
  clear hO4 HO3
  go_wp2_with fail
  refine (put_any ⟨#[125, 125]⟩ W _ (w.heap.size + 1) (RS.head RS.nMatrix ++ R.lst (S.map RS.se)) HB1.o ?_).mono ?_
  · have h1 := HLEN.o
    have : ByteArray.size ⟨#[125, 125]⟩ = 2 := rfl
    rw [List.length_append]
    omega
  rintro e w8 ⟨rfl, hO8⟩
  have hO9 : Ou W w8 (w.heap.size + 1) (RS.whole RS.nMatrix (R.lst (S.map RS.se))) := hO8
  clear hO8
  obtain ⟨A', n', c', k1, k2, k3⟩ := hO9.ex
  have e0 := k1.cell 0 (by simp)
  simp only [List.getElem_cons_zero] at e0
  have HQ : Hd (w8.ownsRow w.heap.size 5 1 (.slice A' n' c') n' (cellsB (RS.whole RS.nMatrix (R.lst (S.map RS.se))))) := hd (by subst k3; exact own_mono k2 (by omega))
  have HB3 : Hd (Below w.heap.size w w8) := hd (HBW.o.trans (hO9.bel.mono (by omega)))
  clear hO9 k1 k2 k3 HB1
  go_wp2
  go_ret
  exact ⟨⟨_, _, rfl, HQ.o⟩, HB3.o⟩
set_option maxRecDepth 100000 in
set_option maxHeartbeats 2000000 in
theorem res0_own (r : RS.Res) (w : World) (hk : r.Ok w) (t1 : r.ty ≠ 1) (t2 : r.ty ≠ 2) (t3 : r.ty ≠ 3) (t4 : r.ty ≠ 4) :
    Calls Tryz.prog 13 #[r.val] w fun e w' => (∃ v m, e = .returned v ∧ w'.ownsRow w.heap.size 5 1 v m (cellsB (RS.bytes r))) ∧ Below w.heap.size w w' := by
  obtain ⟨W, hW⟩ : ∃ W, W = w.alloc (.cells r.cells.toArray 26) := ⟨_, rfl⟩
  have HBW : Hd (Below w.heap.size w W) := hd (by rw [hW]; exact (Below.refl _ _).alloc (Nat.le_refl _) _)
  have hWz : W.heap.size = w.heap.size + 1 := by rw [hW]; simp
  have HK := hd (hk.below HBW.o)
  have HBX : Hd (∀ W' bs, Ou W W' (w.heap.size + 1) bs → ∀ j (hj : j < 6), W'.cell? ⟨w.heap.size, j, none⟩ = some (r.cells[j]'hj)) := hd fun W' bs h j hj => by
    rw [h.bel.cell (p := ⟨w.heap.size, j, none⟩) (Nat.lt_succ_self _), hW, World.cell?_alloc_mark, ← Array.getElem?_toList, List.getElem?_eq_getElem hj]
  have HBX0 : Hd (∀ j (hj : j < 6), W.cell? ⟨w.heap.size, j, none⟩ = some (r.cells[j]'hj)) := hd fun j hj => by
    rw [hW, World.cell?_alloc_mark, ← Array.getElem?_toList, List.getElem?_eq_getElem hj]
  have HO0 : Hd (Ou W (W.alloc (.cells #[.slice none 0 0] 89)) (w.heap.size + 1) []) := hd <| by
    refine ⟨⟨none, 0, 0, ?_, ⟨rfl, .inl ⟨rfl, rfl⟩⟩, rfl⟩, ?_⟩
    · show (W.heap.push (.cells #[.slice none 0 0] 89))[w.heap.size + 1]? = _
      rw [← hWz]; simp
    · exact (Below.refl _ _).alloc (by omega) _
  clear hk
  obtain ⟨ty, t, v, tx, eA, ec, E, sA, sc, S⟩ := r
  simp only at t1 t2 t3 t4 HK
  have HA : Hd (RS.bytes ⟨ty, t, v, tx, eA, ec, E, sA, sc, S⟩ = RS.null) := hd (by unfold RS.bytes; rw [if_neg t1, if_neg t2, if_neg t3, if_neg t4])
  rw [HA.o]
  clear HA
  unfold RS.Res.val
  unfold RS.Res.cells at HBX HBX0 hW ⊢
  go_enter Tryz.func13, Tryz.ntmps13
  go_wp2_with fail
  rw [← hW]
  clear hW
  refine (put_any _ W _ (w.heap.size + 1) [] HO0.o (by decide)).mono ?_
  rintro e w1 ⟨rfl, hO1⟩
  have HO1 : Hd (Ou W w1 (w.heap.size + 1) RS.pre) := hd hO1
  clear hO1 HO0
  have b0 := HBX.o _ _ HO1.o 0 (by decide)
  simp only [List.getElem_cons_zero] at b0
  go_wp2_with fail
  refine (tname0 ty (by simpa using t1) (by simpa using t2) (by simpa using t3) (by simpa using t4) _).mono ?_
  rintro e w2 ⟨rfl, rfl⟩
  go_wp2_with fail
  refine (put_any _ W _ (w.heap.size + 1) RS.pre HO1.o (by decide)).mono ?_
  rintro e w3 ⟨rfl, hO3⟩
  have hO9 : Ou W w3 (w.heap.size + 1) RS.null := hO3
  clear hO3 HO1 b0
  obtain ⟨A', n', c', k1, k2, k3⟩ := hO9.ex
  have e0 := k1.cell 0 (by simp)
  simp only [List.getElem_cons_zero] at e0
  have HQ : Hd (w3.ownsRow w.heap.size 5 1 (.slice A' n' c') n' (cellsB RS.null)) := hd (by subst k3; exact own_mono k2 (by omega))
  have HB3 : Hd (Below w.heap.size w w3) := hd (HBW.o.trans (hO9.bel.mono (by omega)))
  clear hO9 k1 k2 k3
  go_wp2
  go_ret
  exact ⟨⟨_, _, rfl, HQ.o⟩, HB3.o⟩
theorem res_own (r : RS.Res) (w : World) (hk : r.Ok w) :
    Calls Tryz.prog 13 #[r.val] w fun e w' => (∃ v m, e = .returned v ∧ w'.ownsRow w.heap.size 5 1 v m (cellsB (RS.bytes r))) ∧ Below w.heap.size w w' := by
  by_cases h1 : r.ty = 1
  · exact res1_own r w hk h1
  by_cases h2 : r.ty = 2
  · exact res2_own r w hk h2
  by_cases h3 : r.ty = 3
  · exact res3_own r w hk h3
  by_cases h4 : r.ty = 4
  · exact res4_own r w hk h4
  exact res0_own r w hk h1 h2 h3 h4
end Go.Proofs.YteckfdohgiddgaaGreatDoor
namespace Go.Proofs.YteckfdohgiddgaaGreatDoor
open Go.RowKit
set_option linter.unusedVariables false
set_option linter.unusedSimpArgs false
namespace RS
/-- what may be asked of any result's lists -/
structure Res.Lo (w : World) (r : Res) : Prop where
  E : ∀ i (h : i < r.E.length), ∃ b off, r.eA = some ⟨b, off, none⟩ ∧ b < w.heap.size ∧ w.cell? ⟨b, off + i * 2, none⟩ = some r.E[i].sl ∧ w.cell? ⟨b, off + i * 2 + 1, none⟩ = some (.float .f64 r.E[i].f)
  S : ∀ i (h : i < r.S.length), ∃ b off, r.sA = some ⟨b, off, none⟩ ∧ b < w.heap.size ∧ w.cell? ⟨b, off + i * 2, none⟩ = some r.S[i].sl ∧ w.cell? ⟨b, off + i * 2 + 1, none⟩ = some r.S[i].sp
  nE : r.E.length ≤ 1048576
  nS : r.S.length ≤ 1048576
  lE : ∀ x ∈ r.E, x.l.length ≤ 1048576
  lS : ∀ x ∈ r.S, x.l.length ≤ 1048576 ∧ x.ps.length ≤ 1048576
end RS
@[go_sem] theorem run_store_floatP {P : Program} {w : World} {a : Addr} {m : Mode} (k : FloatKind) (b : Nat) : (store a (.float k b) m).run P w = stored P w a (.float k b) m := run_store P w a _ m rfl
def RS.lE (x : RS.El) : Nat := x.l.length
def RS.lS (x : RS.Sr) : Nat := x.l.length + x.ps.length
/-- what parts answers: above most, or all of them -/
def RS.tot (r : RS.Res) : Nat := r.E.length + r.S.length + RS.wt RS.lE r.E + RS.wt RS.lS r.S
def RS.PA (M : Nat) (r : RS.Res) (n : Nat) : Prop := n ≤ M → n = RS.tot r
set_option maxRecDepth 100000 in
set_option maxHeartbeats 2000000 in
theorem rparts_any (M : Nat) (hM : M ≤ 1048576) (r : RS.Res) (w : World) (hk : r.Lo w) :
    Calls Tryz.prog 10 #[r.val, .int .i64 (M : Int)] w fun e w' => (∃ n : Nat, e = .returned (.int .i64 (n : Int)) ∧ RS.PA M r n) ∧ Below w.heap.size w w' := by
  obtain ⟨W, hW⟩ : ∃ W, W = w.alloc (.cells r.cells.toArray 26) := ⟨_, rfl⟩
  have HBW : Hd (Below w.heap.size w W) := hd (by rw [hW]; exact (Below.refl _ _).alloc (Nat.le_refl _) _)
  have hWz : W.heap.size = w.heap.size + 1 := by rw [hW]; simp
  have HBX : Hd (∀ W', Below W.heap.size W W' → ∀ j (hj : j < 6), W'.cell? ⟨w.heap.size, j, none⟩ = some (r.cells[j]'hj)) := hd fun W' h j hj => by
    rw [h.cell (p := ⟨w.heap.size, j, none⟩) (show w.heap.size < W.heap.size by omega), hW, World.cell?_alloc_mark, ← Array.getElem?_toList, List.getElem?_eq_getElem hj]
  have HK := hd hk
  obtain ⟨ty, t, v, tx, eA, ec, E, sA, sc, S⟩ := r
  have hnE : E.length ≤ 1048576 := hk.nE
  have hnS : S.length ≤ 1048576 := hk.nS
  clear hk
  unfold RS.Res.val
  unfold RS.Res.cells at HBX hW ⊢
  have b4 := HBX.o W (Below.refl _ _) 4 (by decide)
  have b5 := HBX.o W (Below.refl _ _) 5 (by decide)
  simp only [List.getElem_cons_zero, List.getElem_cons_succ] at b4 b5
  go_enter Tryz.func10, Tryz.ntmps10
  go_wp2_with (rw [← hW]; clear hW)
  obtain ⟨ne, hne⟩ : ∃ ne, ne = E.length := ⟨_, rfl⟩
  obtain ⟨ns, hns⟩ : ∃ ns, ns = S.length := ⟨_, rfl⟩
  have HNE := hd hne
  have HNS := hd hns
  rw [← hne] at b4 hnE ⊢
  rw [← hns] at b5 hnS ⊢
  clear hne hns
  go_loopw [5, 20] (fun z x wr => ∃ k Z : Nat, k ≤ ne ∧ x = .int .i64 k ∧ z = .int .i64 Z ∧ Z ≤ 3145728 ∧ Hd (Z = ne + ns + RS.wt RS.lE (E.take k)) ∧ Hd (k = 0 ∨ Z ≤ M) ∧ Hd (Below W.heap.size W wr)) (fun _ x _ => ne - (intOf x).toNat)
  case atStart => exact ⟨0, ne + ns, Nat.zero_le _, rfl, by go_num, by omega, hd rfl, hd (.inl rfl), hd (Below.refl _ _)⟩
  case round =>
    clear b4 b5
    obtain ⟨k, Z, hk, rfl, rfl, hZ, HZE, HZM, HB⟩ := hrel
    by_cases hlt : k < ne
    · have hkx : k < E.length := by rw [← HNE.o]; exact hlt
      obtain ⟨b, off, rfl, hbl, q0, q1⟩ := HK.o.E k hkx
      have hln : E[k].l.length ≤ 1048576 := HK.o.lE _ (List.getElem_mem hkx)
      have hlb : b < W.heap.size := Nat.lt_of_lt_of_le hbl HBW.o.size
      have d0 := (HB.o.cell (p := ⟨b, off + k * 2, none⟩) hlb).trans ((HBW.o.cell (p := ⟨b, off + k * 2, none⟩) hbl).trans q0)
      have d1 := (HB.o.cell (p := ⟨b, off + k * 2 + 1, none⟩) hlb).trans ((HBW.o.cell (p := ⟨b, off + k * 2 + 1, none⟩) hbl).trans q1)
      have HT : Hd (RS.wt RS.lE (E.take (k + 1)) = RS.wt RS.lE (E.take k) + E[k].l.length) := hd (RS.wt_take RS.lE E k hkx)
      clear q0 q1
      unfold RS.El.sl at d0
      generalize E[k]'hkx = x at *
      obtain ⟨xA, xc, xl, xf⟩ := x
      simp only at d0 d1 hln HT
      generalize hy : xl.length = y at *
      have HB1 := hd (HB.o.alloc HB.o.size (.cells #[.slice xA y xc, .float .f64 xf] 54))
      by_cases hbig : Z + y ≤ M
      · have hb3 : ¬ (M : Int) < (Z : Int) + (y : Int) := by omega
        clear hlb
        go_wp2
        go_roundw
        case rel => exact ⟨k + 1, Z + y, by omega, by go_num, by go_num, by omega, hd (by rw [HT.o, HZE.o]; omega), hd (.inr hbig), HB1⟩
        case measure => simp [intOf]; omega
      · have hb3 : (M : Int) < (Z : Int) + (y : Int) := by omega
        clear hlb
        go_wp2
        go_ret
        exact ⟨⟨Z + y, by go_num, fun h => absurd h hbig⟩, HBW.o.trans (HB1.o.mono (by omega))⟩
    · have hkn : k = ne := by omega
      subst hkn
      have HZ1 : Hd (Z = k + ns + RS.wt RS.lE E) := hd (by rw [HZE.o, List.take_of_length_le (by rw [← HNE.o]; exact Nat.le_refl _)])
      have b4 := HBX.o wr HB.o 4 (by decide)
      have b5 := HBX.o wr HB.o 5 (by decide)
      simp only [List.getElem_cons_zero, List.getElem_cons_succ] at b4 b5
      rw [← HNS.o] at b5
      clear HZE b4
      obtain ⟨w1, hw1⟩ : ∃ w1 : World, w1 = wr := ⟨_, rfl⟩
      have HBa := hd HB.o
      rw [hw1.symm] at HBa b5 ⊢
      clear HB hw1
      go_wp2
      go_loopw [5, 37] (fun z x wr => ∃ j Y : Nat, j ≤ ns ∧ x = .int .i64 j ∧ z = .int .i64 Y ∧ Y ≤ 8388608 ∧ Hd (Y = Z + RS.wt RS.lS (S.take j)) ∧ Hd (j = 0 ∨ Y ≤ M) ∧ Hd (Below W.heap.size W wr)) (fun _ x _ => ns - (intOf x).toNat)
      case atStart => exact ⟨0, Z, Nat.zero_le _, rfl, rfl, by omega, hd rfl, hd (.inl rfl), HBa⟩
      case round =>
        clear b5
        obtain ⟨j, Y, hj, rfl, rfl, hY, HYE, HYM, HB⟩ := hrel
        by_cases hlt : j < ns
        · have hkx : j < S.length := by rw [← HNS.o]; exact hlt
          obtain ⟨b, off, rfl, hbl, q0, q1⟩ := HK.o.S j hkx
          have hln := (HK.o.lS _ (List.getElem_mem hkx)).1
          have hlp := (HK.o.lS _ (List.getElem_mem hkx)).2
          have hlb : b < W.heap.size := Nat.lt_of_lt_of_le hbl HBW.o.size
          have d0 := (HB.o.cell (p := ⟨b, off + j * 2, none⟩) hlb).trans ((HBW.o.cell (p := ⟨b, off + j * 2, none⟩) hbl).trans q0)
          have d1 := (HB.o.cell (p := ⟨b, off + j * 2 + 1, none⟩) hlb).trans ((HBW.o.cell (p := ⟨b, off + j * 2 + 1, none⟩) hbl).trans q1)
          have HT : Hd (RS.wt RS.lS (S.take (j + 1)) = RS.wt RS.lS (S.take j) + (S[j].l.length + S[j].ps.length)) := hd (RS.wt_take RS.lS S j hkx)
          clear q0 q1
          unfold RS.Sr.sl at d0
          unfold RS.Sr.sp at d1
          generalize S[j]'hkx = x at *
          obtain ⟨xA, xc, xl, pA, pc, ps⟩ := x
          simp only at d0 d1 hln hlp HT
          generalize hy : xl.length = y at *
          generalize hp : ps.length = p at *
          have HB1 := hd (HB.o.alloc HB.o.size (.cells #[.slice xA y xc, .slice pA p pc] 72))
          by_cases hbig : Y + (y + p) ≤ M
          · have hb3 : ¬ (M : Int) < (Y : Int) + ((y : Int) + (p : Int)) := by omega
            clear hlb
            go_wp2
            go_roundw
            case rel => exact ⟨j + 1, Y + (y + p), by omega, by go_num, by go_num, by omega, hd (by rw [HT.o, HYE.o]; omega), hd (.inr hbig), HB1⟩
            case measure => simp [intOf]; omega
          · have hb3 : (M : Int) < (Y : Int) + ((y : Int) + (p : Int)) := by omega
            clear hlb
            go_wp2
            go_ret
            exact ⟨⟨Y + (y + p), by go_num, fun h => absurd h hbig⟩, HBW.o.trans (HB1.o.mono (by omega))⟩
        · have hjn : j = ns := by omega
          subst hjn
          have HY1 : Hd (Y = Z + RS.wt RS.lS S) := hd (by rw [HYE.o, List.take_of_length_le (by rw [← HNS.o]; exact Nat.le_refl _)])
          go_wp2
          go_ret
          exact ⟨⟨Y, rfl, fun _ => by unfold RS.tot; rw [HY1.o, HZ1.o]; show _ = E.length + S.length + _ + _; rw [← HNE.o, ← HNS.o]⟩, HBW.o.trans (HB.o.mono (by omega))⟩
end Go.Proofs.YteckfdohgiddgaaGreatDoor
namespace Go.Proofs.YteckfdohgiddgaaGreatDoor
set_option linter.unusedVariables false
namespace FS
end FS
def RS.lit : RS.Res := ⟨1, 1500, 4612811918334230528, ⟨#[]⟩, none, 0, [], none, 0, []⟩
def RS.aw : List UInt8 := [123, 34, 115, 116, 97, 116, 117, 115, 34, 58, 34, 115, 117, 99, 99, 101, 115, 115, 34, 44, 34, 100, 97, 116, 97, 34, 58, 123, 34, 114, 101, 115, 117, 108, 116, 84, 121, 112, 101, 34, 58, 34, 115, 99, 97, 108, 97, 114, 34, 44, 34, 114, 101, 115, 117, 108, 116, 34, 58, 91, 49, 46, 53, 44, 34, 50, 46, 53, 34, 93, 125, 125]
end Go.Proofs.YteckfdohgiddgaaGreatDoor
namespace Go.Proofs.YteckfdohgiddgaaGreatDoor
open Go.RowKit Go.ChangeShapes Go.WideShapes Go.Deep Go.Joins
set_option linter.unusedVariables false
theorem row_of {α : Type} {m : Nat} {enc : α → List Value} {P : World → α → Prop} {w : World} {a : Addr} {L : List α} (hm : ∀ x, 0 < (enc x).length)
    (h : ∀ i (hi : i < L.length), (∀ j (hj : j < (enc (L[i]'hi)).length), w.cell? (a.add (i * m + j)) = some ((enc (L[i]'hi))[j])) ∧ P w (L[i]'hi)) : RS.Row m enc P w (some a) L := by
  intro i hi
  obtain ⟨h1, h2⟩ := h i hi
  have hc0 := (h 0 (by omega)).1 0 (hm _)
  rw [Nat.zero_mul, show a.add (0 + 0) = a from by simp [Addr.add]] at hc0
  have ha : a = ⟨a.block, a.off, none⟩ := plain_of_cell hc0
  refine ⟨a.block, a.off, congrArg some ha, World.block_lt_of_cell? w a hc0, fun j hj => ?_, h2⟩
  have h3 := h1 j hj
  rw [ha, add_plain] at h3
  rw [Nat.add_assoc]
  exact h3
section
variable {H : Type} {enc : TypeId × Value → H} {w : World} {base : Nat}
theorem trod_floatR {P : Program} {spare : Nat → Bool} {held : Bool} {fuel : Nat} {t : TypeId} {cs : List Value} {x : DataW H × List MemPlace} {k : FloatKind} (ht : P.underlying t = some (.float k)) (h : DataW.trod enc P w base spare held fuel t cs = some x) : ∃ n, cs = [.float k n] ∧ x = (.lit (.float k n), []) ∧ (Lit.float k n).wf = true := by
  cases fuel with
  | zero => simp [DataW.trod] at h
  | succ n =>
    unfold DataW.trod at h
    rw [ht] at h
    split at h <;> simp_all
theorem trod_intR {P : Program} {spare : Nat → Bool} {held : Bool} {fuel : Nat} {t : TypeId} {cs : List Value} {x : DataW H × List MemPlace} {k : IntKind} (ht : P.underlying t = some (.int k)) (h : DataW.trod enc P w base spare held fuel t cs = some x) : ∃ n, cs = [.int k n] ∧ x = (.lit (.int k n), []) ∧ (Lit.int k n).wf = true := by
  cases fuel with
  | zero => simp [DataW.trod] at h
  | succ n =>
    unfold DataW.trod at h
    rw [ht] at h
    split at h <;> simp_all
theorem trod_boolR {P : Program} {spare : Nat → Bool} {held : Bool} {fuel : Nat} {t : TypeId} {cs : List Value} {x : DataW H × List MemPlace} (ht : P.underlying t = some .bool) (h : DataW.trod enc P w base spare held fuel t cs = some x) : ∃ b, cs = [.bool b] := by
  cases fuel with
  | zero => simp [DataW.trod] at h
  | succ n =>
    unfold DataW.trod at h
    rw [ht] at h
    split at h <;> simp_all
theorem wf_f {n : Nat} (h : (Lit.float .f64 n).wf = true) : n < 18446744073709551616 := by
  simpa [Lit.wf] using h
theorem wf_i {x : Int} (h : (Lit.int .i64 x).wf = true) : -9223372036854775808 ≤ x ∧ x ≤ 9223372036854775807 := by
  simpa [Lit.wf, IntKind.min, IntKind.max, IntKind.signed, IntKind.bits] using h
set_option maxRecDepth 100000 in
theorem open_es {fuel : Nat} {v : Value} {x : DataW H × List MemPlace} (h : DataW.trod enc Tryz.prog w 0 (fun _ => true) true fuel 23 [v] = some x)
    (hb : Rows.uptoBulk x.1 ≤ 1048576) : ∃ (E : List RS.El) (A : Option Addr) (c : Nat), v = .slice A E.length c ∧ RS.IsEs w A E ∧ E.length ≤ 1048576 ∧ ∀ x ∈ E, x.l.length ≤ 1048576 := by
  rcases open_slice_fields Tryz.underlying23 Tryz.underlying54 (by kernel_rfl) (by kernel_rfl) h with ⟨hcs, hx⟩ | ⟨a, len, cap, m, D, Pl, hcs, _, hl, hm, hmm, hx, hi⟩
  · obtain rfl : v = .slice none 0 0 := by simpa using hcs
    exact ⟨[], none, 0, rfl, fun i h => absurd h (Nat.not_lt_zero _), by simp, fun x hx => by cases hx⟩
  · obtain rfl : v = .slice (some a) len cap := by simpa using hcs
    subst hx
    simp only at hb
    rw [bulk_slice] at hb
    have each : ∀ i, i < len → ∃ q : RS.El, w.cell? (a.add (i * 2)) = some q.sl ∧ w.cell? (a.add (i * 2 + 1)) = some (.float .f64 q.f) ∧ IsL 2 w q.sl q.l.length (cellsL q.l) ∧ SmL q.l ∧ q.f < 18446744073709551616 := by
      intro i hil
      obtain ⟨ys, n, hD, _, hyl, hfs⟩ := hi i (by simp only [if_true] at hmm; omega)
      obtain ⟨v0, y0, c0, e0, t0⟩ := hfs 0 _ rfl
      obtain ⟨v1, y1, c1, e1, t1⟩ := hfs 1 _ rfl
      have hp := bulk_part (d := D i) (l := (List.range len).map D) (List.mem_map.2 ⟨i, List.mem_range.2 hil, rfl⟩)
      rw [hD, bulk_agg] at hp
      have b0 := bulk_part (d := y0.1) (l := ys.map (·.1)) (List.mem_map.2 ⟨y0, List.mem_of_getElem? e0, rfl⟩)
      obtain ⟨l, A1, k1, rfl, hL, hS, hcp⟩ := open_lbsC t0 (by omega)
      obtain ⟨f, hf1, _, hw⟩ := trod_floatR Tryz.underlying22 t1
      simp at hf1
      subst hf1
      exact ⟨⟨A1, k1, l, f⟩, c0, c1, hL, hS, wf_f hw⟩
    obtain ⟨E, hlen, hR⟩ := list_of len _ each
    subst hlen
    have hbl := bulk_len ((List.range E.length).map D)
    rw [List.length_map, List.length_range] at hbl
    refine ⟨E, some a, cap, rfl, row_of (fun _ => by simp) fun i hi => ?_, by omega, fun x hx => ?_⟩
    · obtain ⟨r1, r2, r3, r4, r5⟩ := hR i hi
      refine ⟨fun j hj => ?_, r3, r4.2, r5⟩
      match j, hj with
      | 0, _ => exact r1
      | 1, _ => exact r2
    · obtain ⟨k, hk, rfl⟩ := List.mem_iff_getElem.1 hx
      exact (hR k hk).2.2.2.1.1
set_option maxRecDepth 100000 in
theorem open_ps {fuel : Nat} {v : Value} {x : DataW H × List MemPlace} (h : DataW.trod enc Tryz.prog w 0 (fun _ => true) true fuel 70 [v] = some x)
    (hb : Rows.uptoBulk x.1 ≤ 1048576) : ∃ (L : List RS.Pt) (A : Option Addr) (c : Nat), v = .slice A L.length c ∧ RS.IsPs w A L ∧ L.length ≤ 1048576 := by
  rcases open_slice_fields Tryz.underlying70 Tryz.underlying77 (by kernel_rfl) (by kernel_rfl) h with ⟨hcs, hx⟩ | ⟨a, len, cap, m, D, Pl, hcs, _, hl, hm, hmm, hx, hi⟩
  · obtain rfl : v = .slice none 0 0 := by simpa using hcs
    exact ⟨[], none, 0, rfl, fun i h => absurd h (Nat.not_lt_zero _), by simp⟩
  · obtain rfl : v = .slice (some a) len cap := by simpa using hcs
    subst hx
    simp only at hb
    rw [bulk_slice] at hb
    have each : ∀ i, i < len → ∃ q : RS.Pt, w.cell? (a.add (i * 3)) = some (.int .i64 q.t) ∧ w.cell? (a.add (i * 3 + 1)) = some (.float .f64 q.f) ∧ w.cell? (a.add (i * 3 + 2)) = some (.bool q.st) ∧ q.ok := by
      intro i hil
      obtain ⟨ys, n, hD, _, hyl, hfs⟩ := hi i (by simp only [if_true] at hmm; omega)
      obtain ⟨v0, y0, c0, e0, t0⟩ := hfs 0 _ rfl
      obtain ⟨v1, y1, c1, e1, t1⟩ := hfs 1 _ rfl
      obtain ⟨v2, y2, c2, e2, t2⟩ := hfs 2 _ rfl
      obtain ⟨z, hz, _, hzw⟩ := trod_intR Tryz.underlying2 t0
      obtain ⟨f, hf1, _, hw⟩ := trod_floatR Tryz.underlying22 t1
      obtain ⟨b, hb1⟩ := trod_boolR Tryz.underlying4 t2
      simp at hf1 hz hb1
      subst hf1 hz hb1
      exact ⟨⟨z, f, b⟩, c0, c1, c2, (wf_i hzw).1, (wf_i hzw).2, wf_f hw⟩
    obtain ⟨E, hlen, hR⟩ := list_of len _ each
    subst hlen
    have hbl := bulk_len ((List.range E.length).map D)
    rw [List.length_map, List.length_range] at hbl
    refine ⟨E, some a, cap, rfl, row_of (fun _ => by simp) fun i hi => ?_, by omega⟩
    obtain ⟨r1, r2, r3, r4⟩ := hR i hi
    refine ⟨fun j hj => ?_, r4⟩
    match j, hj with
    | 0, _ => exact r1
    | 1, _ => exact r2
    | 2, _ => exact r3
set_option maxRecDepth 100000 in
theorem open_ss {fuel : Nat} {v : Value} {x : DataW H × List MemPlace} (h : DataW.trod enc Tryz.prog w 0 (fun _ => true) true fuel 24 [v] = some x)
    (hb : Rows.uptoBulk x.1 ≤ 1048576) : ∃ (S : List RS.Sr) (A : Option Addr) (c : Nat), v = .slice A S.length c ∧ RS.IsSs w A S ∧ S.length ≤ 1048576 ∧ ∀ x ∈ S, x.l.length ≤ 1048576 ∧ x.ps.length ≤ 1048576 := by
  rcases open_slice_fields Tryz.underlying24 Tryz.underlying72 (by kernel_rfl) (by kernel_rfl) h with ⟨hcs, hx⟩ | ⟨a, len, cap, m, D, Pl, hcs, _, hl, hm, hmm, hx, hi⟩
  · obtain rfl : v = .slice none 0 0 := by simpa using hcs
    exact ⟨[], none, 0, rfl, fun i h => absurd h (Nat.not_lt_zero _), by simp, fun x hx => by cases hx⟩
  · obtain rfl : v = .slice (some a) len cap := by simpa using hcs
    subst hx
    simp only at hb
    rw [bulk_slice] at hb
    have each : ∀ i, i < len → ∃ q : RS.Sr, w.cell? (a.add (i * 2)) = some q.sl ∧ w.cell? (a.add (i * 2 + 1)) = some q.sp ∧ IsL 2 w q.sl q.l.length (cellsL q.l) ∧ SmL q.l ∧ RS.IsPs w q.pA q.ps ∧ q.ps.length ≤ 1048576 := by
      intro i hil
      obtain ⟨ys, n, hD, _, hyl, hfs⟩ := hi i (by simp only [if_true] at hmm; omega)
      obtain ⟨v0, y0, c0, e0, t0⟩ := hfs 0 _ rfl
      obtain ⟨v1, y1, c1, e1, t1⟩ := hfs 1 _ rfl
      have hp := bulk_part (d := D i) (l := (List.range len).map D) (List.mem_map.2 ⟨i, List.mem_range.2 hil, rfl⟩)
      rw [hD, bulk_agg] at hp
      have b0 := bulk_part (d := y0.1) (l := ys.map (·.1)) (List.mem_map.2 ⟨y0, List.mem_of_getElem? e0, rfl⟩)
      have b1 := bulk_part (d := y1.1) (l := ys.map (·.1)) (List.mem_map.2 ⟨y1, List.mem_of_getElem? e1, rfl⟩)
      obtain ⟨l, A1, k1, rfl, hL, hS, hcp⟩ := open_lbsC t0 (by omega)
      obtain ⟨ps, pA, pc, rfl, hP, hPn⟩ := open_ps t1 (by omega)
      exact ⟨⟨A1, k1, l, pA, pc, ps⟩, c0, c1, hL, hS, hP, hPn⟩
    obtain ⟨E, hlen, hR⟩ := list_of len _ each
    subst hlen
    have hbl := bulk_len ((List.range E.length).map D)
    rw [List.length_map, List.length_range] at hbl
    refine ⟨E, some a, cap, rfl, row_of (fun _ => by simp) fun i hi => ?_, by omega, fun x hx => ?_⟩
    · obtain ⟨r1, r2, r3, r4, r5, r6⟩ := hR i hi
      refine ⟨fun j hj => ?_, r3, r4.2, r5⟩
      match j, hj with
      | 0, _ => exact r1
      | 1, _ => exact r2
    · obtain ⟨k, hk, rfl⟩ := List.mem_iff_getElem.1 hx
      exact ⟨(hR k hk).2.2.2.1.1, (hR k hk).2.2.2.2.2⟩
theorem open_agg6 {P : Program} {spare : Nat → Bool} {held : Bool} {r : Reach} {b0 : Nat} {t : TypeId} {f0 f1 f2 f3 f4 f5 : Field} {v : Value} {d : DataW H} {p : List MemPlace} (hs : P.underlying t = some (.struct #[f0, f1, f2, f3, f4, f5])) (hone : oneCellFields P #[f0, f1, f2, f3, f4, f5] = true) (hC : P.cellsOf t = 6)
    (hv : Value.okWide P w r b0 t v) (h : DataW.Trod enc P w base spare held t v d p) :
    ∃ (v0 v1 v2 v3 v4 v5 : Value) (y0 y1 y2 y3 y4 y5 : DataW H × List MemPlace) (n : Nat), v = .agg #[v0, v1, v2, v3, v4, v5] ∧ d = .agg [y0.1, y1.1, y2.1, y3.1, y4.1, y5.1] ∧
      DataW.trod enc P w base spare held n f0.type [v0] = some y0 ∧ DataW.trod enc P w base spare held n f1.type [v1] = some y1 ∧ DataW.trod enc P w base spare held n f2.type [v2] = some y2 ∧ DataW.trod enc P w base spare held n f3.type [v3] = some y3 ∧ DataW.trod enc P w base spare held n f4.type [v4] = some y4 ∧ DataW.trod enc P w base spare held n f5.type [v5] = some y5 := by
  obtain ⟨cs, rfl, hsz⟩ := okWide_struct hs hv
  obtain ⟨l⟩ := cs
  match l, hsz.trans hC with
  | [c0, c1, c2, c3, c4, c5], _ =>
    obtain ⟨fuel, hf⟩ := h
    obtain ⟨xs, n, _, hx, _, hlen, hg⟩ := DataW.trod_struct hs hf
    obtain ⟨o0, k0⟩ := hone_of hone 0 f0 rfl
    obtain ⟨o1, k1⟩ := hone_of hone 1 f1 rfl
    obtain ⟨o2, k2⟩ := hone_of hone 2 f2 rfl
    obtain ⟨o3, k3⟩ := hone_of hone 3 f3 rfl
    obtain ⟨o4, k4⟩ := hone_of hone 4 f4 rfl
    obtain ⟨o5, k5⟩ := hone_of hone 5 f5 rfl
    match xs, hlen with
    | [y0, y1, y2, y3, y4, y5], _ =>
      simp only [Prod.mk.injEq] at hx
      exact ⟨c0, c1, c2, c3, c4, c5, y0, y1, y2, y3, y4, y5, n, rfl, by simpa using hx.1, by simpa [Value.cells, o0, k0] using hg 0 f0 rfl, by simpa [Value.cells, o1, k1] using hg 1 f1 rfl, by simpa [Value.cells, o2, k2] using hg 2 f2 rfl, by simpa [Value.cells, o3, k3] using hg 3 f3 rfl, by simpa [Value.cells, o4, k4] using hg 4 f4 rfl, by simpa [Value.cells, o5, k5] using hg 5 f5 rfl⟩
theorem RS.wt_gE : ∀ l : List RS.El, RS.wt RS.gE l = RS.wt RS.lE l + l.length
  | [] => rfl
  | x :: l => by rw [RS.wt, RS.wt, RS.wt_gE l, List.length_cons]; unfold RS.gE RS.lE; omega
theorem RS.wt_gS : ∀ l : List RS.Sr, RS.wt RS.gS l = RS.wt RS.lS l + l.length
  | [] => rfl
  | x :: l => by rw [RS.wt, RS.wt, RS.wt_gS l, List.length_cons]; unfold RS.gS RS.lS; omega
set_option maxRecDepth 100000 in
theorem open_res {v : Value} {d : DataW H} {p : List MemPlace} (hv : Value.okWide Tryz.prog w .any base 26 v) (h : DataW.Trod enc Tryz.prog w 0 (fun _ => true) true 26 v d p) (hb : Rows.uptoBulk d ≤ 1048576) :
    ∃ r : RS.Res, v = r.val ∧ r.Lo w ∧ (Tbl w → RS.tot r ≤ 1048576 → r.Ok w) := by
  obtain ⟨v0, v1, v2, v3, v4, v5, y0, y1, y2, y3, y4, y5, n, rfl, rfl, t0, t1, t2, t3, t4, t5⟩ := open_agg6 Tryz.underlying26 (by kernel_rfl) (by kernel_rfl) hv h
  rw [bulk_agg] at hb
  have b3 : Rows.uptoBulk y3.1 ≤ 1048576 := by have := bulk_part (d := y3.1) (l := [y0.1, y1.1, y2.1, y3.1, y4.1, y5.1]) (by simp); omega
  have b4 := bulk_part (d := y4.1) (l := [y0.1, y1.1, y2.1, y3.1, y4.1, y5.1]) (by simp)
  have b5 := bulk_part (d := y5.1) (l := [y0.1, y1.1, y2.1, y3.1, y4.1, y5.1]) (by simp)
  obtain ⟨ty, e0, _, _⟩ := trod_intR Tryz.underlying3 t0
  obtain ⟨t, e1, _, wt⟩ := trod_intR Tryz.underlying2 t1
  obtain ⟨f, e2, _, wf⟩ := trod_floatR Tryz.underlying22 t2
  obtain ⟨s, e3, hy3, _⟩ := DataW.trod_string Tryz.underlying9 t3
  obtain ⟨E, eA, ec, rfl, hE, hEn, hEl⟩ := open_es t4 (by omega)
  obtain ⟨S, sA, sc, rfl, hS, hSn, hSl⟩ := open_ss t5 (by omega)
  simp at e0 e1 e2 e3
  subst e0 e1 e2 e3
  rw [hy3] at b3
  simp only at b3
  rw [bulk_str, ← Lib.size_eq] at b3
  refine ⟨⟨ty, t, f, s, eA, ec, E, sA, sc, S⟩, rfl, ⟨fun i hi => ?_, fun i hi => ?_, hEn, hSn, hEl, hSl⟩, fun hT ht => ⟨hT, (wf_i wt).1, (wf_i wt).2, wf_f wf, by show s.size ≤ _; omega, hE, hS, ?_, ?_⟩⟩
  · obtain ⟨b, off, e, hl, h1, h2, _⟩ := hE.at_ i hi
    exact ⟨b, off, e, hl, h1, h2⟩
  · obtain ⟨b, off, e, hl, h1, h2, _⟩ := hS.at_ i hi
    exact ⟨b, off, e, hl, h1, h2⟩
  · show RS.wt RS.gE E ≤ 1048576
    rw [RS.wt_gE]
    have : E.length + S.length + RS.wt RS.lE E + RS.wt RS.lS S ≤ 1048576 := ht
    omega
  · show RS.wt RS.gS S ≤ 1048576
    rw [RS.wt_gS]
    have : E.length + S.length + RS.wt RS.lE E + RS.wt RS.lS S ≤ 1048576 := ht
    omega
end
end Go.Proofs.YteckfdohgiddgaaGreatDoor
