/- Results: how they lie in memory, and their bytes. render.out.point, weirref29.point, weirref29.data. render.out.list over the closures of render.Result. The closures of render.Result. render.Result. -/
import Derived.Test.YtcbggkdginfakaaDoorRSt
import Derived.Test.YtcbggkdginfakaaDoorRSec
import Derived.Test.YtcbggkdginfakaaDoorFRefShow
import Derived.Test.YtcbggkdginfakaaDoorFDG
import Derived.Deep.RegionLaw
import Derived.BigQuiet
namespace Go.Proofs.YtcbggkdginfakaaDoor
open Go.RowKit
set_option linter.unusedVariables false
set_option linter.unusedSimpArgs false
open Classical in
/-- what a float is shown as -/
noncomputable def FS.tell (f : Nat) : List UInt8 := if h : ∃ s, FS.Shown f s then Classical.choose h else []
theorem FS.Shown.eq {f : Nat} {s : List UInt8} (h : FS.Shown f s) : s = FS.tell f := by
  have h2 : ∃ s, FS.Shown f s := ⟨s, h⟩
  unfold FS.tell
  rw [dif_pos h2]
  exact h.ext (Classical.choose_spec h2)
theorem FS.tell_len (f : Nat) : (FS.tell f).length ≤ 327 := by
  unfold FS.tell
  split
  · rename_i h
    exact (FS.Shown.len (Classical.choose_spec h)).1
  · simp
namespace RS
structure Pt where
  t : Int
  f : Nat
  st : Bool
structure El where
  A : Option Addr
  c : Nat
  l : List Lb
  f : Nat
def El.sl (x : El) : Value := .slice x.A x.l.length x.c
structure Sr where
  A : Option Addr
  c : Nat
  l : List Lb
  pA : Option Addr
  pc : Nat
  ps : List Pt
def Sr.sl (x : Sr) : Value := .slice x.A x.l.length x.c
def Sr.sp (x : Sr) : Value := .slice x.pA x.ps.length x.pc
/-- a row of values, read by place: m cells each -/
def Row {α : Type} (m : Nat) (enc : α → List Value) (P : World → α → Prop) (w : World) (A : Option Addr) (L : List α) : Prop :=
  ∀ i (h : i < L.length), ∃ b off, A = some ⟨b, off, none⟩ ∧ b < w.heap.size ∧ (∀ j (hj : j < (enc L[i]).length), w.cell? ⟨b, off + i * m + j, none⟩ = some ((enc L[i])[j])) ∧ P w L[i]
theorem Row.below {α : Type} {m : Nat} {enc : α → List Value} {P : World → α → Prop} {w w' : World} {A : Option Addr} {L : List α} (h : Row m enc P w A L) (hb : Below w.heap.size w w') (hP : ∀ x, P w x → P w' x) : Row m enc P w' A L := by
  intro i hi
  obtain ⟨b, off, e, hlt, hc, hp⟩ := h i hi
  exact ⟨b, off, e, Nat.lt_of_lt_of_le hlt hb.size, fun j hj => (hb.cell (p := ⟨b, off + i * m + j, none⟩) hlt).trans (hc j hj), hP _ hp⟩
def Pt.ok (x : Pt) : Prop := -9223372036854775808 ≤ x.t ∧ x.t ≤ 9223372036854775807 ∧ x.f < 18446744073709551616
def IsPs (w : World) (A : Option Addr) (L : List Pt) : Prop := Row 3 (fun x : Pt => [.int .i64 x.t, .float .f64 x.f, .bool x.st]) (fun _ x => x.ok) w A L
def SmL' (l : List Lb) : Prop := ∀ x ∈ l, x.1.size ≤ 1048576 ∧ x.2.size ≤ 1048576
def IsEs (w : World) (A : Option Addr) (L : List El) : Prop := Row 2 (fun x : El => [x.sl, .float .f64 x.f]) (fun w x => IsL 2 w x.sl x.l.length (cellsL x.l) ∧ SmL' x.l ∧ x.f < 18446744073709551616) w A L
def IsSs (w : World) (A : Option Addr) (L : List Sr) : Prop := Row 2 (fun x : Sr => [x.sl, x.sp]) (fun w x => IsL 2 w x.sl x.l.length (cellsL x.l) ∧ SmL' x.l ∧ IsPs w x.pA x.ps) w A L
theorem IsPs.below {w w' : World} {A : Option Addr} {L : List Pt} (h : IsPs w A L) (hb : Below w.heap.size w w') : IsPs w' A L := Row.below h hb fun _ h => h
theorem IsEs.below {w w' : World} {A : Option Addr} {L : List El} (h : IsEs w A L) (hb : Below w.heap.size w w') : IsEs w' A L := Row.below h hb fun _ h => ⟨h.1.below hb, h.2⟩
theorem IsSs.below {w w' : World} {A : Option Addr} {L : List Sr} (h : IsSs w A L) (hb : Below w.heap.size w w') : IsSs w' A L := Row.below h hb fun _ h => ⟨h.1.below hb, h.2.1, IsPs.below h.2.2 hb⟩
theorem IsPs.at_ {w : World} {A : Option Addr} {L : List Pt} (h : IsPs w A L) (i : Nat) (hi : i < L.length) :
    ∃ b off, A = some ⟨b, off, none⟩ ∧ b < w.heap.size ∧ w.cell? ⟨b, off + i * 3, none⟩ = some (.int .i64 L[i].t) ∧ w.cell? ⟨b, off + i * 3 + 1, none⟩ = some (.float .f64 L[i].f) ∧ w.cell? ⟨b, off + i * 3 + 2, none⟩ = some (.bool L[i].st) ∧ L[i].ok := by
  obtain ⟨b, off, e, hlt, hc, hp⟩ := h i hi
  exact ⟨b, off, e, hlt, hc 0 (by simp), hc 1 (by simp), hc 2 (by simp), hp⟩
theorem IsEs.at_ {w : World} {A : Option Addr} {L : List El} (h : IsEs w A L) (i : Nat) (hi : i < L.length) :
    ∃ b off, A = some ⟨b, off, none⟩ ∧ b < w.heap.size ∧ w.cell? ⟨b, off + i * 2, none⟩ = some L[i].sl ∧ w.cell? ⟨b, off + i * 2 + 1, none⟩ = some (.float .f64 L[i].f) ∧ IsL 2 w L[i].sl L[i].l.length (cellsL L[i].l) ∧ SmL' L[i].l ∧ L[i].f < 18446744073709551616 := by
  obtain ⟨b, off, e, hlt, hc, hp⟩ := h i hi
  exact ⟨b, off, e, hlt, hc 0 (by simp), hc 1 (by simp), hp⟩
theorem IsSs.at_ {w : World} {A : Option Addr} {L : List Sr} (h : IsSs w A L) (i : Nat) (hi : i < L.length) :
    ∃ b off, A = some ⟨b, off, none⟩ ∧ b < w.heap.size ∧ w.cell? ⟨b, off + i * 2, none⟩ = some L[i].sl ∧ w.cell? ⟨b, off + i * 2 + 1, none⟩ = some L[i].sp ∧ IsL 2 w L[i].sl L[i].l.length (cellsL L[i].l) ∧ SmL' L[i].l ∧ IsPs w L[i].pA L[i].ps := by
  obtain ⟨b, off, e, hlt, hc, hp⟩ := h i hi
  exact ⟨b, off, e, hlt, hc 0 (by simp), hc 1 (by simp), hp⟩
/-- the bytes -/
noncomputable def pt (t : Int) (f : Nat) : List UInt8 := 91 :: (T.sec t ++ 44 :: 34 :: (FS.tell f ++ [34, 93]))
def kMetric : List UInt8 := [123, 34, 109, 101, 116, 114, 105, 99, 34, 58]
def kValue : List UInt8 := [44, 34, 118, 97, 108, 117, 101, 34, 58]
def kValues : List UInt8 := [44, 34, 118, 97, 108, 117, 101, 115, 34, 58]
noncomputable def el (t : Int) (x : El) : List UInt8 := kMetric ++ R.st x.l ++ kValue ++ pt t x.f ++ [125]
noncomputable def pts (l : List Pt) : List UInt8 := R.lst (l.map fun p => pt p.t p.f)
noncomputable def se (x : Sr) : List UInt8 := kMetric ++ R.st x.l ++ kValues ++ pts x.ps ++ [125]
theorem pt_len (t : Int) (f : Nat) (h0 : -9223372036854775808 ≤ t) (h1 : t ≤ 9223372036854775807) : (pt t f).length ≤ 357 := by
  have h2 := T.sec_len t h0 h1
  have h3 := FS.tell_len f
  unfold pt
  simp only [List.length_cons, List.length_append, List.length_nil]
  omega
theorem el_len (t : Int) (x : El) (h0 : -9223372036854775808 ≤ t) (h1 : t ≤ 9223372036854775807) (hs : SmL' x.l) : (el t x).length ≤ (x.l.length + 1) * 12582918 := by
  have h2 := pt_len t x.f h0 h1
  have h3 := R.st_len x.l hs
  unfold el kMetric kValue
  simp only [List.length_cons, List.length_append, List.length_nil]
  omega
theorem pts_len (l : List Pt) (h : ∀ x ∈ l, x.ok) : (pts l).length ≤ l.length * 358 + 2 := by
  have := R.lst_len 357 (l.map fun p => pt p.t p.f) (by intro x hx; obtain ⟨y, hy, rfl⟩ := List.mem_map.1 hx; exact pt_len _ _ (h y hy).1 (h y hy).2.1)
  rw [List.length_map] at this
  exact this
theorem se_len (x : Sr) (hs : SmL' x.l) (hp : ∀ y ∈ x.ps, y.ok) : (se x).length ≤ (x.l.length + x.ps.length + 1) * 12582918 := by
  have h2 := pts_len x.ps hp
  have h3 := R.st_len x.l hs
  unfold se kMetric kValues
  simp only [List.length_cons, List.length_append, List.length_nil]
  omega
/-- weights -/
def wt {α : Type} (g : α → Nat) : List α → Nat
  | [] => 0
  | x :: l => g x + wt g l
theorem wt_app {α : Type} (g : α → Nat) : ∀ a b : List α, wt g (a ++ b) = wt g a + wt g b
  | [], b => by simp [wt]
  | x :: a, b => by rw [List.cons_append, wt, wt, wt_app g a b]; omega
theorem wt_take {α : Type} (g : α → Nat) (l : List α) (k : Nat) (h : k < l.length) : wt g (l.take (k + 1)) = wt g (l.take k) + g (l[k]'h) := by
  rw [List.take_succ_eq_append_getElem h, wt_app]; rfl
theorem wt_take_le {α : Type} (g : α → Nat) (l : List α) (k : Nat) : wt g (l.take k) ≤ wt g l := by
  have := wt_app g (l.take k) (l.drop k)
  rw [List.take_append_drop] at this
  omega
theorem wt_mem {α : Type} (g : α → Nat) : ∀ (l : List α) (x : α), x ∈ l → g x ≤ wt g l
  | y :: l, x, h => by
    rw [wt]
    rcases List.mem_cons.1 h with rfl | h
    · omega
    · have := wt_mem g l x h; omega
theorem cm_wt {α : Type} (F : α → List UInt8) (g : α → Nat) : ∀ l : List α, (∀ x ∈ l, (F x).length + 1 ≤ g x * 12582919) → (R.cm (l.map F)).length ≤ wt g l * 12582919
  | [], _ => by simp [R.cm, wt]
  | x :: l, h => by
    have h1 := cm_wt F g l (fun y hy => h y (List.mem_cons_of_mem _ hy))
    have h2 := h x (List.mem_cons_self ..)
    unfold R.cm at *
    rw [List.map_cons, List.flatMap_cons, List.length_append, List.length_cons, wt, Nat.add_mul]
    omega
theorem jn_wt {α : Type} (F : α → List UInt8) (g : α → Nat) (l : List α) (h : ∀ x ∈ l, (F x).length + 1 ≤ g x * 12582919) (k : Nat) : (R.jn ((l.map F).take k)).length ≤ wt g l * 12582919 := by
  have h1 := cm_wt F g (l.take k) (fun x hx => h x (List.mem_of_mem_take hx))
  have h2 := Nat.mul_le_mul_right 12582919 (wt_take_le g l k)
  rw [← List.map_take]
  unfold R.jn
  rw [List.length_drop]
  omega
theorem sz_wt {α : Type} (F : α → List UInt8) (g : α → Nat) : ∀ l : List α, (∀ x ∈ l, (F x).length + 1 ≤ g x * 12582919) → R.sz (l.map (R.bt ∘ F)) ≤ wt g l * 12582919
  | [], _ => by simp [R.sz, wt]
  | x :: l, h => by
    have h1 := sz_wt F g l (fun y hy => h y (List.mem_cons_of_mem _ hy))
    have h2 := h x (List.mem_cons_self ..)
    have h3 : ((R.bt ∘ F) x).size = (F x).length := rfl
    rw [List.map_cons, R.sz, h3, wt, Nat.add_mul]
    omega
theorem sz_wt_take {α : Type} (F : α → List UInt8) (g : α → Nat) (l : List α) (h : ∀ x ∈ l, (F x).length + 1 ≤ g x * 12582919) (k : Nat) : R.sz ((l.map (R.bt ∘ F)).take k) ≤ wt g l * 12582919 := by
  have h1 := sz_wt F g (l.take k) (fun x hx => h x (List.mem_of_mem_take hx))
  have h2 := Nat.mul_le_mul_right 12582919 (wt_take_le g l k)
  rw [← List.map_take]
  exact Nat.le_trans h1 h2
def gE (x : El) : Nat := x.l.length + 1
def gS (x : Sr) : Nat := x.l.length + x.ps.length + 1
end RS
end Go.Proofs.YtcbggkdginfakaaDoor
namespace Go.Proofs.YtcbggkdginfakaaDoor
open Go.RowKit
set_option linter.unusedVariables false
set_option linter.unusedSimpArgs false
set_option maxRecDepth 100000 in
set_option maxHeartbeats 1000000 in
theorem point2_any (k : Nat) (e : TypeId) (L : List Value) (t : Int) (f : Nat) (h0 : -9223372036854775808 ≤ t) (h1 : t ≤ 9223372036854775807) (hf : f < 18446744073709551616) (w0 w : World) (g : Nat) (bs : List UInt8) (hT : Tbl w0) (hg : w0.heap.size = g) (hO : Ou w0 w g bs) (hX : Bx w g k e L) (hn : bs.length ≤ 140737480000000) :
    Calls Tryd.prog 15 #[.pointer (some ⟨g, 0, none⟩), .int .i64 t, .float .f64 f] w fun e' w' => e' = .returned (.tuple #[]) ∧ Ou w0 w' g (bs ++ RS.pt t f) ∧ Bx w' g k e L := by
  have hT1 : Tbl w := hT.below (by rw [hg]; exact hO.bel)
  have HS := hd (sec_any t h0 h1 w hT1)
  have HW := hd (fun W (hW : Below w.heap.size w W) => show_any f hf W (hT1.below hW))
  have HO := hd hO
  have HX := hd hX
  have HLT := hd hO.lt
  have l1 := T.sec_len t h0 h1
  have l2 := FS.tell_len f
  have HP : Hd (RS.pt t f = 91 :: (T.sec t ++ 44 :: 34 :: (FS.tell f ++ [34, 93]))) := hd rfl
  rw [HP.o]
  have HE := hd (fun s (h : FS.Shown f s) => h.eq)
  clear hT hT1 hO hX h0 h1 hf HP
  generalize T.sec t = a at *
  generalize FS.tell f = b at *
  go_enter Tryd.func15, Tryd.ntmps15
  go_wp2_with fail
  refine HS.o.mono ?_
  rintro e1 w1 ⟨rfl, hb1⟩
  have HB1 := hd hb1
  clear hb1
  go_wp2_with fail
  refine (HW.o _ HB1.o).mono ?_
  rintro e2 w2 ⟨s, rfl, hs, hb2⟩
  obtain rfl := HE.o s hs
  have HB2 := hd (bel HB1.o hb2)
  clear hb2 hs
  have c1 : ¬ 9223372036854775807 < 1 + a.length + 2 + s.length := by omega
  have c2 : ¬ 9223372036854775807 < 1 + a.length + 2 + s.length + 2 := by omega
  go_wp2_with fail
  have hcat : (⟨#[91]⟩ ++ ⟨a.toArray⟩ ++ ⟨#[44, 34]⟩ ++ ⟨s.toArray⟩ ++ ⟨#[34, 93]⟩ : ByteArray).data.toList = 91 :: (a ++ 44 :: 34 :: (s ++ [34, 93])) := by simp [ByteArray.data_append]
  generalize hS : (⟨#[91]⟩ ++ ⟨a.toArray⟩ ++ ⟨#[44, 34]⟩ ++ ⟨s.toArray⟩ ++ ⟨#[34, 93]⟩ : ByteArray) = S at *
  refine (put2_any k e L S w0 _ g bs (HO.o.below HB2.o) (HX.o.below HB2.o HLT.o) ?_).mono ?_
  · rw [Lib.size_eq, hcat]
    simp only [List.length_cons, List.length_append, List.length_nil]
    omega
  rintro e3 w3 ⟨rfl, hO3, hX3⟩
  rw [hcat] at hO3
  have HO3 := hd hO3
  have HX3 := hd hX3
  clear hO3 hX3 hcat hS
  go_wp2
  go_end0
  exact ⟨rfl, HO3.o, HX3.o⟩
/-- what the answer says around the result -/
def RS.head (name : List UInt8) : List UInt8 := [123, 34, 115, 116, 97, 116, 117, 115, 34, 58, 34, 115, 117, 99, 99, 101, 115, 115, 34, 44, 34, 100, 97, 116, 97, 34, 58, 123, 34, 114, 101, 115, 117, 108, 116, 84, 121, 112, 101, 34, 58, 34] ++ name ++ [34, 44, 34, 114, 101, 115, 117, 108, 116, 34, 58]
def RS.whole (name body : List UInt8) : List UInt8 := RS.head name ++ body ++ [125, 125]
end Go.Proofs.YtcbggkdginfakaaDoor
namespace Go.Proofs.YtcbggkdginfakaaDoor
open Go.RowKit
set_option linter.unusedVariables false
set_option linter.unusedSimpArgs false
set_option maxRecDepth 100000 in
set_option maxHeartbeats 1000000 in
theorem point_any (t : Int) (f : Nat) (h0 : -9223372036854775808 ≤ t) (h1 : t ≤ 9223372036854775807) (hf : f < 18446744073709551616) (w0 w : World) (g : Nat) (bs : List UInt8) (hT : Tbl w0) (hg : w0.heap.size = g) (hO : Ou w0 w g bs) (hn : bs.length ≤ 140737480000000) :
    Calls Tryd.prog 15 #[.pointer (some ⟨g, 0, none⟩), .int .i64 t, .float .f64 f] w fun e' w' => e' = .returned (.tuple #[]) ∧ Ou w0 w' g (bs ++ RS.pt t f) := by
  have hT1 : Tbl w := hT.below (by rw [hg]; exact hO.bel)
  have HS := hd (sec_any t h0 h1 w hT1)
  have HW := hd (fun W (hW : Below w.heap.size w W) => show_any f hf W (hT1.below hW))
  have HO := hd hO
  have HLT := hd hO.lt
  have l1 := T.sec_len t h0 h1
  have l2 := FS.tell_len f
  have HP : Hd (RS.pt t f = 91 :: (T.sec t ++ 44 :: 34 :: (FS.tell f ++ [34, 93]))) := hd rfl
  rw [HP.o]
  have HE := hd (fun s (h : FS.Shown f s) => h.eq)
  clear hT hT1 hO h0 h1 hf HP
  generalize T.sec t = a at *
  generalize FS.tell f = b at *
  go_enter Tryd.func15, Tryd.ntmps15
  go_wp2_with fail
  refine HS.o.mono ?_
  rintro e1 w1 ⟨rfl, hb1⟩
  have HB1 := hd hb1
  clear hb1
  go_wp2_with fail
  refine (HW.o _ HB1.o).mono ?_
  rintro e2 w2 ⟨s, rfl, hs, hb2⟩
  obtain rfl := HE.o s hs
  have HB2 := hd (bel HB1.o hb2)
  clear hb2 hs
  have c1 : ¬ 9223372036854775807 < 1 + a.length + 2 + s.length := by omega
  have c2 : ¬ 9223372036854775807 < 1 + a.length + 2 + s.length + 2 := by omega
  go_wp2_with fail
  have hcat : (⟨#[91]⟩ ++ ⟨a.toArray⟩ ++ ⟨#[44, 34]⟩ ++ ⟨s.toArray⟩ ++ ⟨#[34, 93]⟩ : ByteArray).data.toList = 91 :: (a ++ 44 :: 34 :: (s ++ [34, 93])) := by simp [ByteArray.data_append]
  generalize hS : (⟨#[91]⟩ ++ ⟨a.toArray⟩ ++ ⟨#[44, 34]⟩ ++ ⟨s.toArray⟩ ++ ⟨#[34, 93]⟩ : ByteArray) = S at *
  refine (put_any S w0 _ g bs (HO.o.below HB2.o) ?_).mono ?_
  · rw [Lib.size_eq, hcat]
    simp only [List.length_cons, List.length_append, List.length_nil]
    omega
  rintro e3 w3 ⟨rfl, hO3⟩
  rw [hcat] at hO3
  have HO3 := hd hO3
  clear hO3 hcat hS
  go_wp2
  go_end0
  exact ⟨rfl, HO3.o⟩
set_option maxHeartbeats 1000000 in
theorem rlist1 (X : Value) (n : Nat) (xs : List (List UInt8)) (w0 w : World) (g : Nat) (bs : List UInt8) (hxs : xs.length = n) (hO : Ou w0 w g bs) (hJ : ∀ k, k ≤ n → (R.jn (xs.take k)).length ≤ 13194149000000) (hn : bs.length ≤ 20000000000000) (hn2 : n ≤ 1048576)
    (hM : ∀ (k : Nat) (hk : k < xs.length) (cs : List UInt8) (W : World), Ou w0 W g cs → cs.length ≤ 34000000000000 → Calls Tryd.prog 19 #[.int .i64 (k : Int), .pointer (some ⟨g, 0, none⟩), X] W fun e' w' => e' = .returned (.tuple #[]) ∧ Ou w0 w' g (cs ++ xs[k])) :
    Calls Tryd.prog 18 #[.pointer (some ⟨g, 0, none⟩), .int .i64 n, .func (.func 19) #[] #[.pointer (some ⟨g, 0, none⟩), X]] w fun e' w' => e' = .returned (.tuple #[]) ∧ Ou w0 w' g (bs ++ R.lst xs) := by
  have HO := hd hO
  have HXL := hd hxs
  have HJ := hd hJ
  have HM := hd hM
  clear hO hxs hJ hM
  go_enter Tryd.func18, Tryd.ntmps18
  go_wp2_with (go_at_call 13; refine (put_any _ w0 _ g bs HO.o (by have : ByteArray.size ⟨#[91]⟩ = 1 := rfl; omega)).mono ?_; rintro e' w2 ⟨rfl, hO2⟩; have HO2 : Hd (Ou w0 w2 g (bs ++ [91])) := hd hO2; clear hO2 HO)
  go_loopw [10] (fun x w2 => ∃ (k : Nat) (cs : List UInt8), k ≤ n ∧ x = .int .i64 k ∧ Hd (cs = bs ++ 91 :: R.jn (xs.take k)) ∧ Hd (Ou w0 w2 g cs)) (fun x _ => n - (intOf x).toNat)
  case atStart => exact ⟨0, _, Nat.zero_le _, rfl, hd rfl, HO2⟩
  case round =>
    clear HO2
    obtain ⟨k, cs, hk, rfl, hcs, HO⟩ := hrel
    have hlen : cs.length ≤ 33194149001001 := by rw [hcs.o, List.length_append, List.length_cons]; have := HJ.o k hk; omega
    by_cases hlt : k < n
    · have hkx : k < xs.length := by rw [HXL.o]; exact hlt
      have HJT := hd (R.jn_take xs k hkx)
      have HMK := hd (HM.o k hkx)
      by_cases h0 : k = 0
      · have G : Hd (cs ++ xs[k] = bs ++ 91 :: R.jn (xs.take (k + 1))) := hd (by rw [HJT.o, if_pos h0, hcs.o, show R.jn (xs.take k) = [] from by rw [h0]; rfl]; simp)
        have hk0 : ¬ 0 < k := by omega
        clear HJT hcs h0
        generalize xs[k] = y at *
        go_wp2_with (go_at_call 19; refine (HMK.o cs _ HO.o (by omega)).mono ?_; rintro e' w3 ⟨rfl, hO3⟩; have HO3 := hd hO3; clear hO3)
        go_roundw
        case rel => exact ⟨k + 1, _, by omega, by go_num, G, HO3⟩
        case measure => simp [intOf]; omega
      · have G : Hd (cs ++ [44] ++ xs[k] = bs ++ 91 :: R.jn (xs.take (k + 1))) := hd (by rw [HJT.o, if_neg h0, hcs.o]; simp)
        have hk0 : 0 < k := by omega
        have hl4 : (cs ++ [44]).length ≤ 34000000000000 := by rw [List.length_append]; show cs.length + 1 ≤ _; omega
        have HL4 := hd hl4
        clear HJT hcs h0 hl4
        generalize xs[k] = y at *
        go_wp2_with (first
          | (go_at_call 13; refine (put_any _ w0 _ g cs HO.o (by have : ByteArray.size ⟨#[44]⟩ = 1 := rfl; omega)).mono ?_; rintro e' w2 ⟨rfl, hO2⟩; have HO2 : Hd (Ou w0 w2 g (cs ++ [44])) := hd hO2; clear hO2)
          | (go_at_call 19; refine (HMK.o (cs ++ [44]) _ HO2.o HL4.o).mono ?_; rintro e' w3 ⟨rfl, hO3⟩; have HO3 := hd hO3; clear hO3))
        go_roundw
        case rel => exact ⟨k + 1, _, by omega, by go_num, G, HO3⟩
        case measure => simp [intOf]; omega
    · have hkn : k = n := by omega
      subst hkn
      have HE : Hd (cs ++ [93] = bs ++ R.lst xs) := hd (by rw [hcs.o, List.take_of_length_le (by rw [HXL.o]; exact Nat.le_refl _)]; unfold R.lst; simp)
      go_wp2_with (go_at_call 13; refine (put_any _ w0 _ g cs HO.o (by have : ByteArray.size ⟨#[93]⟩ = 1 := rfl; omega)).mono ?_; rintro e' w2 ⟨rfl, hO2⟩; have HO2 : Hd (Ou w0 w2 g (bs ++ R.lst xs)) := hd (by rw [← HE.o]; exact hO2); clear hO2)
      go_end0
      exact ⟨rfl, HO2.o⟩
set_option maxHeartbeats 1000000 in
theorem rlist2 (X : Value) (n : Nat) (xs : List (List UInt8)) (w0 w : World) (g : Nat) (bs : List UInt8) (hxs : xs.length = n) (hO : Ou w0 w g bs) (hJ : ∀ k, k ≤ n → (R.jn (xs.take k)).length ≤ 13194149000000) (hn : bs.length ≤ 20000000000000) (hn2 : n ≤ 1048576)
    (hM : ∀ (k : Nat) (hk : k < xs.length) (cs : List UInt8) (W : World), Ou w0 W g cs → cs.length ≤ 34000000000000 → Calls Tryd.prog 21 #[.int .i64 (k : Int), .pointer (some ⟨g, 0, none⟩), X] W fun e' w' => e' = .returned (.tuple #[]) ∧ Ou w0 w' g (cs ++ xs[k])) :
    Calls Tryd.prog 18 #[.pointer (some ⟨g, 0, none⟩), .int .i64 n, .func (.func 21) #[] #[.pointer (some ⟨g, 0, none⟩), X]] w fun e' w' => e' = .returned (.tuple #[]) ∧ Ou w0 w' g (bs ++ R.lst xs) := by
  have HO := hd hO
  have HXL := hd hxs
  have HJ := hd hJ
  have HM := hd hM
  clear hO hxs hJ hM
  go_enter Tryd.func18, Tryd.ntmps18
  go_wp2_with (go_at_call 13; refine (put_any _ w0 _ g bs HO.o (by have : ByteArray.size ⟨#[91]⟩ = 1 := rfl; omega)).mono ?_; rintro e' w2 ⟨rfl, hO2⟩; have HO2 : Hd (Ou w0 w2 g (bs ++ [91])) := hd hO2; clear hO2 HO)
  go_loopw [10] (fun x w2 => ∃ (k : Nat) (cs : List UInt8), k ≤ n ∧ x = .int .i64 k ∧ Hd (cs = bs ++ 91 :: R.jn (xs.take k)) ∧ Hd (Ou w0 w2 g cs)) (fun x _ => n - (intOf x).toNat)
  case atStart => exact ⟨0, _, Nat.zero_le _, rfl, hd rfl, HO2⟩
  case round =>
    clear HO2
    obtain ⟨k, cs, hk, rfl, hcs, HO⟩ := hrel
    have hlen : cs.length ≤ 33194149001001 := by rw [hcs.o, List.length_append, List.length_cons]; have := HJ.o k hk; omega
    by_cases hlt : k < n
    · have hkx : k < xs.length := by rw [HXL.o]; exact hlt
      have HJT := hd (R.jn_take xs k hkx)
      have HMK := hd (HM.o k hkx)
      by_cases h0 : k = 0
      · have G : Hd (cs ++ xs[k] = bs ++ 91 :: R.jn (xs.take (k + 1))) := hd (by rw [HJT.o, if_pos h0, hcs.o, show R.jn (xs.take k) = [] from by rw [h0]; rfl]; simp)
        have hk0 : ¬ 0 < k := by omega
        clear HJT hcs h0
        generalize xs[k] = y at *
        go_wp2_with (go_at_call 21; refine (HMK.o cs _ HO.o (by omega)).mono ?_; rintro e' w3 ⟨rfl, hO3⟩; have HO3 := hd hO3; clear hO3)
        go_roundw
        case rel => exact ⟨k + 1, _, by omega, by go_num, G, HO3⟩
        case measure => simp [intOf]; omega
      · have G : Hd (cs ++ [44] ++ xs[k] = bs ++ 91 :: R.jn (xs.take (k + 1))) := hd (by rw [HJT.o, if_neg h0, hcs.o]; simp)
        have hk0 : 0 < k := by omega
        have hl4 : (cs ++ [44]).length ≤ 34000000000000 := by rw [List.length_append]; show cs.length + 1 ≤ _; omega
        have HL4 := hd hl4
        clear HJT hcs h0 hl4
        generalize xs[k] = y at *
        go_wp2_with (first
          | (go_at_call 13; refine (put_any _ w0 _ g cs HO.o (by have : ByteArray.size ⟨#[44]⟩ = 1 := rfl; omega)).mono ?_; rintro e' w2 ⟨rfl, hO2⟩; have HO2 : Hd (Ou w0 w2 g (cs ++ [44])) := hd hO2; clear hO2)
          | (go_at_call 21; refine (HMK.o (cs ++ [44]) _ HO2.o HL4.o).mono ?_; rintro e' w3 ⟨rfl, hO3⟩; have HO3 := hd hO3; clear hO3))
        go_roundw
        case rel => exact ⟨k + 1, _, by omega, by go_num, G, HO3⟩
        case measure => simp [intOf]; omega
    · have hkn : k = n := by omega
      subst hkn
      have HE : Hd (cs ++ [93] = bs ++ R.lst xs) := hd (by rw [hcs.o, List.take_of_length_le (by rw [HXL.o]; exact Nat.le_refl _)]; unfold R.lst; simp)
      go_wp2_with (go_at_call 13; refine (put_any _ w0 _ g cs HO.o (by have : ByteArray.size ⟨#[93]⟩ = 1 := rfl; omega)).mono ?_; rintro e' w2 ⟨rfl, hO2⟩; have HO2 : Hd (Ou w0 w2 g (bs ++ R.lst xs)) := hd (by rw [← HE.o]; exact hO2); clear hO2)
      go_end0
      exact ⟨rfl, HO2.o⟩
set_option maxHeartbeats 1000000 in
theorem rlist21 (kb : Nat) (eb : TypeId) (Lb0 : List Value) (X : Value) (n : Nat) (xs : List (List UInt8)) (w0 w : World) (g : Nat) (bs : List UInt8) (hxs : xs.length = n) (hO : Ou w0 w g bs) (hX : Bx w g kb eb Lb0) (hJ : ∀ k, k ≤ n → (R.jn (xs.take k)).length ≤ 13194149000000) (hn : bs.length ≤ 50000000000000) (hn2 : n ≤ 1048576)
    (hM : ∀ (k : Nat) (hk : k < xs.length) (cs : List UInt8) (W : World), Ou w0 W g cs → Bx W g kb eb Lb0 → cs.length ≤ 64000000000000 → Calls Tryd.prog 22 #[.int .i64 (k : Int), .pointer (some ⟨g, 0, none⟩), X] W fun e' w' => e' = .returned (.tuple #[]) ∧ Ou w0 w' g (cs ++ xs[k]) ∧ Bx w' g kb eb Lb0) :
    Calls Tryd.prog 18 #[.pointer (some ⟨g, 0, none⟩), .int .i64 n, .func (.func 22) #[] #[.pointer (some ⟨g, 0, none⟩), X]] w fun e' w' => e' = .returned (.tuple #[]) ∧ Ou w0 w' g (bs ++ R.lst xs) ∧ Bx w' g kb eb Lb0 := by
  have HO := hd hO
  have HX := hd hX
  have HXL := hd hxs
  have HJ := hd hJ
  have HM := hd hM
  clear hO hX hxs hJ hM
  go_enter Tryd.func18, Tryd.ntmps18
  go_wp2_with (go_at_call 13; refine (put2_any kb eb Lb0 _ w0 _ g bs HO.o HX.o (by have : ByteArray.size ⟨#[91]⟩ = 1 := rfl; omega)).mono ?_; rintro e' w2 ⟨rfl, hO2, hX2⟩; have HO2 : Hd (Ou w0 w2 g (bs ++ [91])) := hd hO2; have HX2 := hd hX2; clear hX2; clear hO2 HO)
  go_loopw [10] (fun x w2 => ∃ (k : Nat) (cs : List UInt8), k ≤ n ∧ x = .int .i64 k ∧ Hd (cs = bs ++ 91 :: R.jn (xs.take k)) ∧ Hd (Ou w0 w2 g cs) ∧ Hd (Bx w2 g kb eb Lb0)) (fun x _ => n - (intOf x).toNat)
  case atStart => exact ⟨0, _, Nat.zero_le _, rfl, hd rfl, HO2, HX2⟩
  case round =>
    clear HO2 HX HX2
    obtain ⟨k, cs, hk, rfl, hcs, HO, HXk⟩ := hrel
    have hlen : cs.length ≤ 63194149001001 := by rw [hcs.o, List.length_append, List.length_cons]; have := HJ.o k hk; omega
    by_cases hlt : k < n
    · have hkx : k < xs.length := by rw [HXL.o]; exact hlt
      have HJT := hd (R.jn_take xs k hkx)
      have HMK := hd (HM.o k hkx)
      by_cases h0 : k = 0
      · have G : Hd (cs ++ xs[k] = bs ++ 91 :: R.jn (xs.take (k + 1))) := hd (by rw [HJT.o, if_pos h0, hcs.o, show R.jn (xs.take k) = [] from by rw [h0]; rfl]; simp)
        have hk0 : ¬ 0 < k := by omega
        clear HJT hcs h0
        generalize xs[k] = y at *
        go_wp2_with (go_at_call 22; refine (HMK.o cs _ HO.o HXk.o (by omega)).mono ?_; rintro e' w3 ⟨rfl, hO3, hX3⟩; have HO3 := hd hO3; have HX3 := hd hX3; clear hX3; clear hO3)
        go_roundw
        case rel => exact ⟨k + 1, _, by omega, by go_num, G, HO3, HX3⟩
        case measure => simp [intOf]; omega
      · have G : Hd (cs ++ [44] ++ xs[k] = bs ++ 91 :: R.jn (xs.take (k + 1))) := hd (by rw [HJT.o, if_neg h0, hcs.o]; simp)
        have hk0 : 0 < k := by omega
        have hl4 : (cs ++ [44]).length ≤ 64000000000000 := by rw [List.length_append]; show cs.length + 1 ≤ _; omega
        have HL4 := hd hl4
        clear HJT hcs h0 hl4
        generalize xs[k] = y at *
        go_wp2_with (first
          | (go_at_call 13; refine (put2_any kb eb Lb0 _ w0 _ g cs HO.o HXk.o (by have : ByteArray.size ⟨#[44]⟩ = 1 := rfl; omega)).mono ?_; rintro e' w2 ⟨rfl, hO2, hX2⟩; have HO2 : Hd (Ou w0 w2 g (cs ++ [44])) := hd hO2; have HX2 := hd hX2; clear hX2; clear hO2)
          | (go_at_call 22; refine (HMK.o (cs ++ [44]) _ HO2.o HX2.o HL4.o).mono ?_; rintro e' w3 ⟨rfl, hO3, hX3⟩; have HO3 := hd hO3; have HX3 := hd hX3; clear hX3; clear hO3))
        go_roundw
        case rel => exact ⟨k + 1, _, by omega, by go_num, G, HO3, HX3⟩
        case measure => simp [intOf]; omega
    · have hkn : k = n := by omega
      subst hkn
      have HE : Hd (cs ++ [93] = bs ++ R.lst xs) := hd (by rw [hcs.o, List.take_of_length_le (by rw [HXL.o]; exact Nat.le_refl _)]; unfold R.lst; simp)
      go_wp2_with (go_at_call 13; refine (put2_any kb eb Lb0 _ w0 _ g cs HO.o HXk.o (by have : ByteArray.size ⟨#[93]⟩ = 1 := rfl; omega)).mono ?_; rintro e' w2 ⟨rfl, hO2, hX2⟩; have HO2 : Hd (Ou w0 w2 g (bs ++ R.lst xs)) := hd (by rw [← HE.o]; exact hO2); have HX2 := hd hX2; clear hX2; clear hO2)
      go_end0
      exact ⟨rfl, HO2.o, HX2.o⟩
end Go.Proofs.YtcbggkdginfakaaDoor
namespace Go.Proofs.YtcbggkdginfakaaDoor
open Go.RowKit
set_option linter.unusedVariables false
set_option linter.unusedSimpArgs false
set_option maxRecDepth 100000 in
set_option maxHeartbeats 1000000 in
theorem clo21_any (hb : Nat) (A : Option Addr) (c : Nat) (L : List RS.Pt) (w0 w : World) (g : Nat) (cs : List UInt8) (k : Nat) (hk : k < L.length) (hT : Tbl w0) (hg : w0.heap.size = g) (hP : RS.IsPs w0 A L) (hO : Ou w0 w g cs) (hX : Bx w g hb 45 [.slice A L.length c]) (hn : cs.length ≤ 64000000000000) :
    Calls Tryd.prog 22 #[.int .i64 (k : Int), .pointer (some ⟨g, 0, none⟩), .pointer (some ⟨hb, 0, none⟩)] w fun e' w' => e' = .returned (.tuple #[]) ∧ Ou w0 w' g (cs ++ RS.pt L[k].t L[k].f) ∧ Bx w' g hb 45 [.slice A L.length c] := by
  obtain ⟨b, off, rfl, hbl, q0, q1, q2, ok1, ok2, ok3⟩ := hP.at_ k hk
  have c0 := hX.1.cell 0 (by simp)
  simp only [List.getElem_cons_zero] at c0
  have d0 := (hO.bel.cell (p := ⟨b, off + k * 3, none⟩) (show b < g by omega)).trans q0
  have d1 := (hO.bel.cell (p := ⟨b, off + k * 3 + 1, none⟩) (show b < g by omega)).trans q1
  have HO := hd hO
  have HX := hd hX
  have HT := hd hT
  have HK1 := hd ok1
  have HK2 := hd ok2
  have HK3 := hd ok3
  clear hT hO hX q0 q1 q2 ok1 ok2 ok3 hP
  generalize L[k] = p at *
  generalize L.length = n at *
  go_enter Tryd.func22, Tryd.ntmps22
  have HOD := hd (HO.o.below (Below.refl w.heap.size w).drew)
  have HXD : Hd (Bx w.drew g hb 45 [.slice (some ⟨b, off, none⟩) n c]) := hd ⟨HX.o.1.below (Below.refl w.heap.size w).drew, HX.o.2⟩
  go_wp2_with fail
  go_region_law (go_simp; go_at_call 15; refine (point2_any hb 45 [.slice (some ⟨b, off, none⟩) n c] p.t p.f HK1.o HK2.o HK3.o w0 _ g cs HT.o hg HOD.o HXD.o (by omega)).mono ?_; rintro e' w2 ⟨rfl, hO2, hX2⟩; have HO2 := hd hO2; have HX2 := hd hX2; clear hO2 hX2)
  all_goals go_wp2
  all_goals go_end0
  all_goals exact ⟨rfl, HO2.o, HX2.o⟩
set_option maxRecDepth 100000 in
set_option maxHeartbeats 2000000 in
theorem clo1_any (rb : Nat) (t : Int) (A : Option Addr) (c : Nat) (L : List RS.El) (w0 w : World) (g : Nat) (cs : List UInt8) (k : Nat) (hk : k < L.length) (h0 : -9223372036854775808 ≤ t) (h1 : t ≤ 9223372036854775807) (hT : Tbl w0) (hg : w0.heap.size = g) (hP : RS.IsEs w0 A L) (hO : Ou w0 w g cs) (hrb : rb < g) (hc1 : w0.cell? ⟨rb, 1, none⟩ = some (.int .i64 t)) (hc4 : w0.cell? ⟨rb, 4, none⟩ = some (.slice A L.length c)) (hn : cs.length ≤ 34000000000000) (hn2 : L[k].l.length ≤ 1048576) :
    Calls Tryd.prog 19 #[.int .i64 (k : Int), .pointer (some ⟨g, 0, none⟩), .pointer (some ⟨rb, 0, none⟩)] w fun e' w' => e' = .returned (.tuple #[]) ∧ Ou w0 w' g (cs ++ RS.el t L[k]) := by
  obtain ⟨b, off, rfl, hbl, q0, q1, hL, hS, hf⟩ := hP.at_ k hk
  have HB : Hd (∀ W bs, Ou w0 W g bs → W.cell? ⟨rb, 4, none⟩ = some (.slice (some ⟨b, off, none⟩) L.length c) ∧ W.cell? ⟨rb, 1, none⟩ = some (.int .i64 t) ∧ W.cell? ⟨b, off + k * 2, none⟩ = some L[k].sl ∧ W.cell? ⟨b, off + k * 2 + 1, none⟩ = some (.float .f64 L[k].f)) := hd fun W bs h => ⟨(h.bel.cell (p := ⟨rb, 4, none⟩) hrb).trans hc4, (h.bel.cell (p := ⟨rb, 1, none⟩) hrb).trans hc1, (h.bel.cell (p := ⟨b, off + k * 2, none⟩) (show b < g by omega)).trans q0, (h.bel.cell (p := ⟨b, off + k * 2 + 1, none⟩) (show b < g by omega)).trans q1⟩
  have HE : Hd (RS.el t L[k] = RS.kMetric ++ R.st L[k].l ++ RS.kValue ++ RS.pt t L[k].f ++ [125]) := hd rfl
  have hst := R.st_len L[k].l hS
  have hpt := RS.pt_len t L[k].f h0 h1
  have HST : Hd ((R.st L[k].l).length ≤ 14000000000000) := hd (by omega)
  have HO := hd hO
  have HT := hd hT
  have HL := hd hL
  have HS := hd hS
  have HF := hd hf
  have H0 := hd h0
  have H1 := hd h1
  rw [HE.o]
  clear hT hO q0 q1 hL hS hf hP h0 h1 hc1 hc4 HE hst
  unfold RS.El.sl at HB HL
  generalize L[k] = x at *
  generalize L.length = n at *
  obtain ⟨xA, xc, xl, xf⟩ := x
  simp only at HB HL HS HF hn2 hpt HST ⊢
  go_enter Tryd.func19, Tryd.ntmps19
  go_wp2_with fail
  refine (put_any _ w0 _ g cs HO.o (by have : ByteArray.size ⟨#[123, 34, 109, 101, 116, 114, 105, 99, 34, 58]⟩ = 10 := rfl; omega)).mono ?_
  rintro e w1 ⟨rfl, hO1⟩
  have HO1 : Hd (Ou w0 w1 g (cs ++ RS.kMetric)) := hd hO1
  clear hO1 HO
  obtain ⟨a4, a1, al, af⟩ := HB.o _ _ HO1.o
  have e1 : (cs ++ RS.kMetric).length = cs.length + 10 := by rw [List.length_append]; rfl
  go_wp2_with fail
  refine (labels_any xl _ xl.length w0 _ g (cs ++ RS.kMetric) HL.o hg HO1.o HS.o (by omega) hn2).mono ?_
  rintro e w2 ⟨rfl, hO2⟩
  have HO2 := hd hO2
  clear hO2 a4 a1 al af
  have e2 : (cs ++ RS.kMetric ++ R.st xl).length = cs.length + 10 + (R.st xl).length := by rw [List.length_append, e1]
  have hst := HST.o
  go_wp2_with fail
  refine (put_any _ w0 _ g (cs ++ RS.kMetric ++ R.st xl) HO2.o (by have : ByteArray.size ⟨#[44, 34, 118, 97, 108, 117, 101, 34, 58]⟩ = 9 := rfl; omega)).mono ?_
  rintro e w3 ⟨rfl, hO3⟩
  have HO3 : Hd (Ou w0 w3 g (cs ++ RS.kMetric ++ R.st xl ++ RS.kValue)) := hd hO3
  clear hO3
  have e3 : (cs ++ RS.kMetric ++ R.st xl ++ RS.kValue).length = cs.length + 10 + (R.st xl).length + 9 := by rw [List.length_append, e2]; rfl
  obtain ⟨a4, a1, al, af⟩ := HB.o _ _ HO3.o
  have HOD := hd (HO3.o.below (Below.refl w3.heap.size w3).drew)
  have HLN : Hd ((cs ++ RS.kMetric ++ R.st xl ++ RS.kValue).length ≤ 140737480000000) := hd (by omega)
  go_wp2_with fail
  go_region_law (go_simp; go_at_call 15; refine (point_any t xf H0.o H1.o HF.o w0 _ g (cs ++ RS.kMetric ++ R.st xl ++ RS.kValue) HT.o hg HOD.o HLN.o).mono ?_; rintro e' w4 ⟨rfl, hO4⟩; have HO4 := hd hO4; clear hO4)
  all_goals go_wp2_with fail
  all_goals refine (put_any ⟨#[125]⟩ w0 _ g (cs ++ RS.kMetric ++ R.st xl ++ RS.kValue ++ RS.pt t xf) HO4.o (by have : ByteArray.size ⟨#[125]⟩ = 1 := rfl; rw [List.length_append, e3]; omega)).mono ?_
  all_goals rintro e w5 ⟨rfl, hO5⟩
  all_goals have HO5 : Hd (Ou w0 w5 g (cs ++ (RS.kMetric ++ R.st xl ++ RS.kValue ++ RS.pt t xf ++ [125]))) := hd (by simpa only [List.append_assoc] using hO5)
  all_goals clear hO5
  all_goals go_wp2
  all_goals go_end0
  all_goals exact ⟨rfl, HO5.o⟩
theorem RS.pts_jn (l : List RS.Pt) (h : ∀ x ∈ l, x.ok) (k : Nat) : (R.jn ((l.map fun p => RS.pt p.t p.f).take k)).length ≤ k * 358 :=
  R.jn_len 357 k _ (by intro x hx; obtain ⟨y, hy, rfl⟩ := List.mem_map.1 hx; exact RS.pt_len _ _ (h y hy).1 (h y hy).2.1)
set_option maxRecDepth 100000 in
set_option maxHeartbeats 2000000 in
theorem clo2_any (rb : Nat) (A : Option Addr) (c : Nat) (L : List RS.Sr) (w0 w : World) (g : Nat) (cs : List UInt8) (k : Nat) (hk : k < L.length) (hT : Tbl w0) (hg : w0.heap.size = g) (hP : RS.IsSs w0 A L) (hO : Ou w0 w g cs) (hrb : rb < g) (hc5 : w0.cell? ⟨rb, 5, none⟩ = some (.slice A L.length c)) (hn : cs.length ≤ 34000000000000) (hn2 : L[k].l.length ≤ 1048576) (hn3 : L[k].ps.length ≤ 1048576) :
    Calls Tryd.prog 21 #[.int .i64 (k : Int), .pointer (some ⟨g, 0, none⟩), .pointer (some ⟨rb, 0, none⟩)] w fun e' w' => e' = .returned (.tuple #[]) ∧ Ou w0 w' g (cs ++ RS.se L[k]) := by
  obtain ⟨b, off, rfl, hbl, q0, q1, hL, hS, hps⟩ := hP.at_ k hk
  have HB : Hd (∀ W bs, Ou w0 W g bs → W.cell? ⟨rb, 5, none⟩ = some (.slice (some ⟨b, off, none⟩) L.length c) ∧ W.cell? ⟨b, off + k * 2, none⟩ = some L[k].sl ∧ W.cell? ⟨b, off + k * 2 + 1, none⟩ = some L[k].sp) := hd fun W bs h => ⟨(h.bel.cell (p := ⟨rb, 5, none⟩) hrb).trans hc5, (h.bel.cell (p := ⟨b, off + k * 2, none⟩) (show b < g by omega)).trans q0, (h.bel.cell (p := ⟨b, off + k * 2 + 1, none⟩) (show b < g by omega)).trans q1⟩
  have HE : Hd (RS.se L[k] = RS.kMetric ++ R.st L[k].l ++ RS.kValues ++ RS.pts L[k].ps ++ [125]) := hd rfl
  have hst := R.st_len L[k].l hS
  have hok : ∀ x ∈ L[k].ps, x.ok := fun x hx => by obtain ⟨i, hi, rfl⟩ := List.mem_iff_getElem.1 hx; exact (hps.at_ i hi).choose_spec.choose_spec.2.2.2.2.2
  have hpt := RS.pts_len L[k].ps hok
  have HST : Hd ((R.st L[k].l).length ≤ 14000000000000) := hd (by omega)
  have HJ := hd (RS.pts_jn L[k].ps hok)
  have HO := hd hO
  have HT := hd hT
  have HL := hd hL
  have HS := hd hS
  have HP := hd hps
  rw [HE.o]
  clear hT hO q0 q1 hL hS hps hP hc5 HE hst hok
  unfold RS.Sr.sl RS.Sr.sp at HB
  unfold RS.Sr.sl at HL
  generalize L[k] = x at *
  generalize L.length = n at *
  obtain ⟨xA, xc, xl, pA, pc, ps⟩ := x
  simp only at HB HL HS HP HJ hn2 hn3 hpt HST ⊢
  go_enter Tryd.func21, Tryd.ntmps21
  go_wp2_with fail
  refine (put_any _ w0 _ g cs HO.o (by have : ByteArray.size ⟨#[123, 34, 109, 101, 116, 114, 105, 99, 34, 58]⟩ = 10 := rfl; omega)).mono ?_
  rintro e w1 ⟨rfl, hO1⟩
  have HO1 : Hd (Ou w0 w1 g (cs ++ RS.kMetric)) := hd hO1
  clear hO1 HO
  obtain ⟨a5, al, ap⟩ := HB.o _ _ HO1.o
  have e1 : (cs ++ RS.kMetric).length = cs.length + 10 := by rw [List.length_append]; rfl
  go_wp2_with fail
  refine (labels_any xl _ xl.length w0 _ g (cs ++ RS.kMetric) HL.o hg HO1.o HS.o (by omega) hn2).mono ?_
  rintro e w2 ⟨rfl, hO2⟩
  have HO2 := hd hO2
  clear hO2 a5 al ap
  have e2 : (cs ++ RS.kMetric ++ R.st xl).length = cs.length + 10 + (R.st xl).length := by rw [List.length_append, e1]
  have hst := HST.o
  go_wp2_with fail
  refine (put_any _ w0 _ g (cs ++ RS.kMetric ++ R.st xl) HO2.o (by have : ByteArray.size ⟨#[44, 34, 118, 97, 108, 117, 101, 115, 34, 58]⟩ = 10 := rfl; omega)).mono ?_
  rintro e w3 ⟨rfl, hO3⟩
  have HO3 : Hd (Ou w0 w3 g (cs ++ RS.kMetric ++ R.st xl ++ RS.kValues)) := hd hO3
  clear hO3
  have e3 : (cs ++ RS.kMetric ++ R.st xl ++ RS.kValues).length = cs.length + 10 + (R.st xl).length + 10 := by rw [List.length_append, e2]; rfl
  obtain ⟨a5, al, ap⟩ := HB.o _ _ HO3.o
  obtain ⟨hb, hhb⟩ : ∃ hb, hb = w3.heap.size := ⟨_, rfl⟩
  have HO4 := hd (HO3.o.below ((Below.refl w3.heap.size w3).alloc (Nat.le_refl _) (.cells #[.slice pA ps.length pc] 45)))
  have HX4 : Hd (Bx (w3.alloc (.cells #[.slice pA ps.length pc] 45)) g hb 45 [.slice pA ps.length pc]) := hd <| by
    refine ⟨?_, by have := HO3.o.lt; omega, by decide⟩
    show (w3.heap.push (.cells #[.slice pA ps.length pc] 45))[hb]? = _
    rw [hhb]; simp
  have e0 := HX4.o.1.cell 0 (by simp)
  simp only [List.getElem_cons_zero] at e0
  rw [hhb] at e0
  go_wp2_with fail
  have HW0 : Hd (Below g w0 (w3.alloc (.cells #[.slice pA ps.length pc] 45))) := hd HO4.o.bel
  have HL4 : Hd ((cs ++ RS.kMetric ++ R.st xl ++ RS.kValues).length ≤ 50000000000000) := hd (by omega)
  refine (rlist21 hb 45 [.slice pA ps.length pc] (.pointer (some ⟨w3.heap.size, 0, none⟩)) ps.length (ps.map fun p => RS.pt p.t p.f) w0 _ g (cs ++ RS.kMetric ++ R.st xl ++ RS.kValues) (by rw [List.length_map]) HO4.o HX4.o (fun k hk => Nat.le_trans (HJ.o k) (by omega)) HL4.o hn3 ?_).mono ?_
  · intro j hj cs' W hO' hX' hlen'
    rw [List.length_map] at hj
    rw [List.getElem_map, ← hhb]
    exact clo21_any hb pA pc ps w0 W g cs' j hj HT.o hg HP.o hO' hX' hlen'
  rintro e w5 ⟨rfl, hO5, hX5⟩
  have HO5 : Hd (Ou w0 w5 g (cs ++ RS.kMetric ++ R.st xl ++ RS.kValues ++ RS.pts ps)) := hd hO5
  clear hO5 hX5
  go_wp2_with fail
  refine (put_any ⟨#[125]⟩ w0 _ g (cs ++ RS.kMetric ++ R.st xl ++ RS.kValues ++ RS.pts ps) HO5.o (by have : ByteArray.size ⟨#[125]⟩ = 1 := rfl; rw [List.length_append, e3]; omega)).mono ?_
  rintro e w6 ⟨rfl, hO6⟩
  have HO6 : Hd (Ou w0 w6 g (cs ++ (RS.kMetric ++ R.st xl ++ RS.kValues ++ RS.pts ps ++ [125]))) := hd (by simpa only [List.append_assoc] using hO6)
  clear hO6
  go_wp2
  go_end0
  exact ⟨rfl, HO6.o⟩
end Go.Proofs.YtcbggkdginfakaaDoor
namespace Go.Proofs.YtcbggkdginfakaaDoor
open Go.RowKit
set_option linter.unusedVariables false
set_option linter.unusedSimpArgs false
namespace RS
structure Res where
  ty : Int
  t : Int
  v : Nat
  tx : ByteArray
  eA : Option Addr
  ec : Nat
  E : List El
  sA : Option Addr
  sc : Nat
  S : List Sr
def Res.cells (r : Res) : List Value := [.int .i64 r.ty, .int .i64 r.t, .float .f64 r.v, .string r.tx, .slice r.eA r.E.length r.ec, .slice r.sA r.S.length r.sc]
def Res.val (r : Res) : Value := .agg r.cells.toArray
def null : List UInt8 := [123, 34, 115, 116, 97, 116, 117, 115, 34, 58, 34, 115, 117, 99, 99, 101, 115, 115, 34, 44, 34, 100, 97, 116, 97, 34, 58, 110, 117, 108, 108, 125]
def nScalar : List UInt8 := [115, 99, 97, 108, 97, 114]
def nString : List UInt8 := [115, 116, 114, 105, 110, 103]
def nVector : List UInt8 := [118, 101, 99, 116, 111, 114]
def nMatrix : List UInt8 := [109, 97, 116, 114, 105, 120]
noncomputable def bytes (r : Res) : List UInt8 :=
  if r.ty = 1 then whole nScalar (pt r.t r.v) else
  if r.ty = 2 then whole nString (91 :: (T.sec r.t ++ 44 :: (R.t r.tx ++ [93]))) else
  if r.ty = 3 then whole nVector (R.lst (r.E.map (el r.t))) else
  if r.ty = 4 then whole nMatrix (R.lst (r.S.map se)) else null
/-- what is asked of a result -/
structure Res.Ok (w : World) (r : Res) : Prop where
  T : Tbl w
  t0 : -9223372036854775808 ≤ r.t
  t1 : r.t ≤ 9223372036854775807
  v : r.v < 18446744073709551616
  tx : r.tx.size ≤ 1048576
  E : IsEs w r.eA r.E
  S : IsSs w r.sA r.S
  wE : wt gE r.E ≤ 1048576
  wS : wt gS r.S ≤ 1048576
theorem Res.Ok.below {w w' : World} {r : Res} (h : r.Ok w) (hb : Below w.heap.size w w') : r.Ok w' := ⟨h.T.below hb, h.t0, h.t1, h.v, h.tx, h.E.below hb, h.S.below hb, h.wE, h.wS⟩
theorem wt_len {α : Type} (g : α → Nat) : ∀ l : List α, (∀ x ∈ l, 1 ≤ g x) → l.length ≤ wt g l
  | [], _ => Nat.le_refl _
  | x :: l, h => by
    have := wt_len g l (fun y hy => h y (List.mem_cons_of_mem _ hy))
    have := h x (List.mem_cons_self ..)
    rw [List.length_cons, wt]; omega
theorem Res.Ok.nE {w : World} {r : Res} (h : r.Ok w) : r.E.length ≤ 1048576 := Nat.le_trans (wt_len gE r.E (fun x _ => by unfold gE; omega)) h.wE
theorem Res.Ok.nS {w : World} {r : Res} (h : r.Ok w) : r.S.length ≤ 1048576 := Nat.le_trans (wt_len gS r.S (fun x _ => by unfold gS; omega)) h.wS
theorem Res.Ok.eB {w : World} {r : Res} (h : r.Ok w) : ∀ x ∈ r.E, (el r.t x).length + 1 ≤ gE x * 12582919 := fun x hx => by
  obtain ⟨i, hi, rfl⟩ := List.mem_iff_getElem.1 hx
  obtain ⟨_, _, _, _, _, _, _, hs, _⟩ := h.E.at_ i hi
  have := el_len r.t r.E[i] h.t0 h.t1 hs
  unfold gE
  omega
theorem Res.Ok.sB {w : World} {r : Res} (h : r.Ok w) : ∀ x ∈ r.S, (se x).length + 1 ≤ gS x * 12582919 := fun x hx => by
  obtain ⟨i, hi, rfl⟩ := List.mem_iff_getElem.1 hx
  obtain ⟨_, _, _, _, _, _, _, hs, hp⟩ := h.S.at_ i hi
  have := se_len r.S[i] hs (fun y hy => by obtain ⟨j, hj, rfl⟩ := List.mem_iff_getElem.1 hy; exact (hp.at_ j hj).choose_spec.choose_spec.2.2.2.2.2)
  unfold gS
  omega
theorem Res.Ok.eJ {w : World} {r : Res} (h : r.Ok w) (k : Nat) : (R.jn ((r.E.map (el r.t)).take k)).length ≤ 13194149000000 := by
  have h1 := jn_wt (el r.t) gE r.E h.eB k
  have h2 := Nat.mul_le_mul_right 12582919 h.wE
  omega
theorem Res.Ok.sJ {w : World} {r : Res} (h : r.Ok w) (k : Nat) : (R.jn ((r.S.map se).take k)).length ≤ 13194149000000 := by
  have h1 := jn_wt se gS r.S h.sB k
  have h2 := Nat.mul_le_mul_right 12582919 h.wS
  omega
theorem lst_le {xs : List (List UInt8)} (h : ∀ k, (R.jn (xs.take k)).length ≤ 13194149000000) : (R.lst xs).length ≤ 13194149000002 := by
  have := h xs.length
  rw [List.take_of_length_le (Nat.le_refl _)] at this
  unfold R.lst
  rw [List.length_append, List.length_cons, List.length_singleton]
  omega
theorem head_len (n : List UInt8) : (head n).length = 53 + n.length := by
  unfold head
  rw [List.length_append, List.length_append]
  simp only [List.length_cons, List.length_nil]
  omega
end RS
def RS.pre : List UInt8 := [123, 34, 115, 116, 97, 116, 117, 115, 34, 58, 34, 115, 117, 99, 99, 101, 115, 115, 34, 44, 34, 100, 97, 116, 97, 34, 58]
theorem tname0 (ty : Int) (h1 : (ty == 1) = false) (h2 : (ty == 2) = false) (h3 : (ty == 3) = false) (h4 : (ty == 4) = false) (w : World) : Calls Tryd.prog 14 #[.int .i64 ty] w fun e w' => e = .returned (.tuple #[.string ⟨#[]⟩, .bool false]) ∧ w' = w := by
  go_enter Tryd.func14, Tryd.ntmps14
  go_wp2
  go_ret2
  exact ⟨rfl, rfl⟩
theorem tname1 (w : World) : Calls Tryd.prog 14 #[.int .i64 1] w fun e w' => e = .returned (.tuple #[.string ⟨#[115, 99, 97, 108, 97, 114]⟩, .bool true]) ∧ w' = w := by
  go_enter Tryd.func14, Tryd.ntmps14
  go_wp2
  go_ret2
  exact ⟨rfl, rfl⟩
theorem tname2 (w : World) : Calls Tryd.prog 14 #[.int .i64 2] w fun e w' => e = .returned (.tuple #[.string ⟨#[115, 116, 114, 105, 110, 103]⟩, .bool true]) ∧ w' = w := by
  go_enter Tryd.func14, Tryd.ntmps14
  go_wp2
  go_ret2
  exact ⟨rfl, rfl⟩
theorem tname3 (w : World) : Calls Tryd.prog 14 #[.int .i64 3] w fun e w' => e = .returned (.tuple #[.string ⟨#[118, 101, 99, 116, 111, 114]⟩, .bool true]) ∧ w' = w := by
  go_enter Tryd.func14, Tryd.ntmps14
  go_wp2
  go_ret2
  exact ⟨rfl, rfl⟩
theorem tname4 (w : World) : Calls Tryd.prog 14 #[.int .i64 4] w fun e w' => e = .returned (.tuple #[.string ⟨#[109, 97, 116, 114, 105, 120]⟩, .bool true]) ∧ w' = w := by
  go_enter Tryd.func14, Tryd.ntmps14
  go_wp2
  go_ret2
  exact ⟨rfl, rfl⟩
set_option maxRecDepth 100000 in
set_option maxHeartbeats 2000000 in
theorem res1_own (r : RS.Res) (w : World) (hk : r.Ok w) (ht : r.ty = 1) :
    Calls Tryd.prog 7 #[r.val] w fun e w' => (∃ v m, e = .returned v ∧ w'.ownsRow w.heap.size 5 1 v m (cellsB (RS.bytes r))) ∧ Below w.heap.size w w' := by
  obtain ⟨W, hW⟩ : ∃ W, W = w.alloc (.cells r.cells.toArray 26) := ⟨_, rfl⟩
  have HBW : Hd (Below w.heap.size w W) := hd (by rw [hW]; exact (Below.refl _ _).alloc (Nat.le_refl _) _)
  have hWz : W.heap.size = w.heap.size + 1 := by rw [hW]; simp
  have HK := hd (hk.below HBW.o)
  have HBX : Hd (∀ W' bs, Ou W W' (w.heap.size + 1) bs → ∀ j (hj : j < 6), W'.cell? ⟨w.heap.size, j, none⟩ = some (r.cells[j]'hj)) := hd fun W' bs h j hj => by
    rw [h.bel.cell (p := ⟨w.heap.size, j, none⟩) (Nat.lt_succ_self _), hW, World.cell?_alloc_mark, ← Array.getElem?_toList, List.getElem?_eq_getElem hj]
  have HBX0 : Hd (∀ j (hj : j < 6), W.cell? ⟨w.heap.size, j, none⟩ = some (r.cells[j]'hj)) := hd fun j hj => by
    rw [hW, World.cell?_alloc_mark, ← Array.getElem?_toList, List.getElem?_eq_getElem hj]
  have HO0 : Hd (Ou W (W.alloc (.cells #[.slice none 0 0] 51)) (w.heap.size + 1) []) := hd <| by
    refine ⟨⟨none, 0, 0, ?_, ⟨rfl, .inl ⟨rfl, rfl⟩⟩, rfl⟩, ?_⟩
    · show (W.heap.push (.cells #[.slice none 0 0] 51))[w.heap.size + 1]? = _
      rw [← hWz]; simp
    · exact (Below.refl _ _).alloc (by omega) _
  clear hk
  obtain ⟨ty, t, v, tx, eA, ec, E, sA, sc, S⟩ := r
  simp only at ht HK
  subst ht
  have HA : Hd (RS.bytes ⟨1, t, v, tx, eA, ec, E, sA, sc, S⟩ = RS.whole RS.nScalar (RS.pt t v)) := hd (by unfold RS.bytes; simp)
  rw [HA.o]
  clear HA
  unfold RS.Res.val
  unfold RS.Res.cells at HBX HBX0 hW ⊢
  go_enter Tryd.func7, Tryd.ntmps7
  go_wp2_with fail
  rw [← hW]
  clear hW
  refine (put_any _ W _ (w.heap.size + 1) [] HO0.o (by decide)).mono ?_
  rintro e w1 ⟨rfl, hO1⟩
  have HO1 : Hd (Ou W w1 (w.heap.size + 1) RS.pre) := hd hO1
  clear hO1 HO0
  have b0 := HBX.o _ _ HO1.o 0 (by decide)
  simp only [List.getElem_cons_zero] at b0
  go_wp2_with fail
  refine (tname1 _).mono ?_
  rintro e w2 ⟨rfl, rfl⟩
  go_wp2_with fail
  refine (put_any _ W _ (w.heap.size + 1) RS.pre HO1.o (by decide)).mono ?_
  rintro e w3 ⟨rfl, hO3⟩
  have HO3 : Hd (Ou W w3 (w.heap.size + 1) (RS.head RS.nScalar)) := hd hO3
  clear hO3 HO1 b0
  have hh := RS.head_len RS.nScalar
  have hnm : (RS.nScalar).length = 6 := rfl
  have b0 := HBX.o _ _ HO3.o 0 (by decide)
  have b1 := HBX.o _ _ HO3.o 1 (by decide)
  have b2 := HBX.o _ _ HO3.o 2 (by decide)
  have b3 := HBX.o _ _ HO3.o 3 (by decide)
  have b4 := HBX.o _ _ HO3.o 4 (by decide)
  have b5 := HBX.o _ _ HO3.o 5 (by decide)
  simp only [List.getElem_cons_zero, List.getElem_cons_succ] at b0 b1 b2 b3 b4 b5
  go_wp2_with fail
  refine (point_any t v HK.o.t0 HK.o.t1 HK.o.v W _ (w.heap.size + 1) (RS.head RS.nScalar) HK.o.T hWz HO3.o (by omega)).mono ?_
  rintro e w4 ⟨rfl, hO4⟩
  have HB1 := hd hO4
  have HLEN : Hd ((RS.pt t v).length ≤ 13194149000002) := hd (by have := RS.pt_len t v HK.o.t0 HK.o.t1; omega)
  clear hO4 HO3
  go_wp2_with fail
  refine (put_any ⟨#[125, 125]⟩ W _ (w.heap.size + 1) (RS.head RS.nScalar ++ RS.pt t v) HB1.o ?_).mono ?_
  · have h1 := HLEN.o
    have : ByteArray.size ⟨#[125, 125]⟩ = 2 := rfl
    rw [List.length_append]
    omega
  rintro e w8 ⟨rfl, hO8⟩
  have hO9 : Ou W w8 (w.heap.size + 1) (RS.whole RS.nScalar (RS.pt t v)) := hO8
  clear hO8
  obtain ⟨A', n', c', k1, k2, k3⟩ := hO9.ex
  have e0 := k1.cell 0 (by simp)
  simp only [List.getElem_cons_zero] at e0
  have HQ : Hd (w8.ownsRow w.heap.size 5 1 (.slice A' n' c') n' (cellsB (RS.whole RS.nScalar (RS.pt t v)))) := hd (by subst k3; exact own_mono k2 (by omega))
  have HB3 : Hd (Below w.heap.size w w8) := hd (HBW.o.trans (hO9.bel.mono (by omega)))
  clear hO9 k1 k2 k3 HB1
  go_wp2
  go_ret
  exact ⟨⟨_, _, rfl, HQ.o⟩, HB3.o⟩
theorem res1_any (r : RS.Res) (w : World) (hk : r.Ok w) (ht : r.ty = 1) :
    Calls Tryd.prog 7 #[r.val] w fun e w' => (∃ v m, e = .returned v ∧ IsL 1 w' v m (cellsB (RS.bytes r))) ∧ Below w.heap.size w w' := (res1_own r w hk ht).mono fun _ _ h => ⟨by obtain ⟨v, m, h1, h2⟩ := h.1; exact ⟨v, m, h1, IsL.own h2⟩, h.2⟩
set_option maxRecDepth 100000 in
set_option maxHeartbeats 2000000 in
theorem res2_own (r : RS.Res) (w : World) (hk : r.Ok w) (ht : r.ty = 2) :
    Calls Tryd.prog 7 #[r.val] w fun e w' => (∃ v m, e = .returned v ∧ w'.ownsRow w.heap.size 5 1 v m (cellsB (RS.bytes r))) ∧ Below w.heap.size w w' := by
  obtain ⟨W, hW⟩ : ∃ W, W = w.alloc (.cells r.cells.toArray 26) := ⟨_, rfl⟩
  have HBW : Hd (Below w.heap.size w W) := hd (by rw [hW]; exact (Below.refl _ _).alloc (Nat.le_refl _) _)
  have hWz : W.heap.size = w.heap.size + 1 := by rw [hW]; simp
  have HK := hd (hk.below HBW.o)
  have HBX : Hd (∀ W' bs, Ou W W' (w.heap.size + 1) bs → ∀ j (hj : j < 6), W'.cell? ⟨w.heap.size, j, none⟩ = some (r.cells[j]'hj)) := hd fun W' bs h j hj => by
    rw [h.bel.cell (p := ⟨w.heap.size, j, none⟩) (Nat.lt_succ_self _), hW, World.cell?_alloc_mark, ← Array.getElem?_toList, List.getElem?_eq_getElem hj]
  have HBX0 : Hd (∀ j (hj : j < 6), W.cell? ⟨w.heap.size, j, none⟩ = some (r.cells[j]'hj)) := hd fun j hj => by
    rw [hW, World.cell?_alloc_mark, ← Array.getElem?_toList, List.getElem?_eq_getElem hj]
  have HO0 : Hd (Ou W (W.alloc (.cells #[.slice none 0 0] 51)) (w.heap.size + 1) []) := hd <| by
    refine ⟨⟨none, 0, 0, ?_, ⟨rfl, .inl ⟨rfl, rfl⟩⟩, rfl⟩, ?_⟩
    · show (W.heap.push (.cells #[.slice none 0 0] 51))[w.heap.size + 1]? = _
      rw [← hWz]; simp
    · exact (Below.refl _ _).alloc (by omega) _
  clear hk
  obtain ⟨ty, t, v, tx, eA, ec, E, sA, sc, S⟩ := r
  simp only at ht HK
  subst ht
  have HA : Hd (RS.bytes ⟨2, t, v, tx, eA, ec, E, sA, sc, S⟩ = RS.whole RS.nString ((91 :: (T.sec t ++ 44 :: (R.t tx ++ [93]))))) := hd (by unfold RS.bytes; simp)
  rw [HA.o]
  clear HA
  unfold RS.Res.val
  unfold RS.Res.cells at HBX HBX0 hW ⊢
  go_enter Tryd.func7, Tryd.ntmps7
  go_wp2_with fail
  rw [← hW]
  clear hW
  refine (put_any _ W _ (w.heap.size + 1) [] HO0.o (by decide)).mono ?_
  rintro e w1 ⟨rfl, hO1⟩
  have HO1 : Hd (Ou W w1 (w.heap.size + 1) RS.pre) := hd hO1
  clear hO1 HO0
  have b0 := HBX.o _ _ HO1.o 0 (by decide)
  simp only [List.getElem_cons_zero] at b0
  go_wp2_with fail
  refine (tname2 _).mono ?_
  rintro e w2 ⟨rfl, rfl⟩
  go_wp2_with fail
  refine (put_any _ W _ (w.heap.size + 1) RS.pre HO1.o (by decide)).mono ?_
  rintro e w3 ⟨rfl, hO3⟩
  have HO3 : Hd (Ou W w3 (w.heap.size + 1) (RS.head RS.nString)) := hd hO3
  clear hO3 HO1 b0
  have hh := RS.head_len RS.nString
  have hnm : (RS.nString).length = 6 := rfl
  have b0 := HBX.o _ _ HO3.o 0 (by decide)
  have b1 := HBX.o _ _ HO3.o 1 (by decide)
  have b2 := HBX.o _ _ HO3.o 2 (by decide)
  have b3 := HBX.o _ _ HO3.o 3 (by decide)
  have b4 := HBX.o _ _ HO3.o 4 (by decide)
  have b5 := HBX.o _ _ HO3.o 5 (by decide)
  simp only [List.getElem_cons_zero, List.getElem_cons_succ] at b0 b1 b2 b3 b4 b5
  go_wp2_with fail
  have hsl := T.sec_len t HK.o.t0 HK.o.t1
  refine (sec_any t HK.o.t0 HK.o.t1 _ (HK.o.T.below (by rw [hWz]; exact HO3.o.bel))).mono ?_
  rintro e w4 ⟨rfl, hb4⟩
  have HO4 := hd (HO3.o.below hb4)
  clear hb4 HO3
  go_wp2_with fail
  have hc1 : (⟨#[91]⟩ ++ ⟨(T.sec t).toArray⟩ ++ ⟨#[44]⟩ : ByteArray).data.toList = 91 :: (T.sec t ++ [44]) := by simp [ByteArray.data_append]
  generalize (⟨#[91]⟩ ++ ⟨(T.sec t).toArray⟩ ++ ⟨#[44]⟩ : ByteArray) = q at *
  refine (put_any q W _ (w.heap.size + 1) (RS.head RS.nString) HO4.o ?_).mono ?_
  · rw [Lib.size_eq, hc1]
    simp only [List.length_cons, List.length_append, List.length_nil]
    omega
  rintro e w5 ⟨rfl, hO5⟩
  rw [hc1] at hO5
  have HO5 := hd hO5
  clear hO5 HO4 b0 b1 b2 b3 b4 b5
  have b3 := HBX.o _ _ HO5.o 3 (by decide)
  simp only [List.getElem_cons_zero, List.getElem_cons_succ] at b3
  go_wp2_with fail
  refine (rtext_any tx W _ (w.heap.size + 1) _ HO5.o HK.o.tx ?_).mono ?_
  · simp only [List.length_cons, List.length_append, List.length_nil]
    omega
  rintro e w6 ⟨rfl, hO6⟩
  have HO6 := hd hO6
  clear hO6 HO5
  have htl := R.t_len tx
  have htx := HK.o.tx
  go_wp2_with fail
  refine (put_any ⟨#[93]⟩ W _ (w.heap.size + 1) _ HO6.o ?_).mono ?_
  · have : ByteArray.size ⟨#[93]⟩ = 1 := rfl
    simp only [List.length_cons, List.length_append, List.length_nil]
    omega
  rintro e w7 ⟨rfl, hO7⟩
  have HB1 : Hd (Ou W w7 (w.heap.size + 1) (RS.head RS.nString ++ (91 :: (T.sec t ++ 44 :: (R.t tx ++ [93]))))) := hd (by simpa using hO7)
  have HLEN : Hd ((91 :: (T.sec t ++ 44 :: (R.t tx ++ [93]))).length ≤ 13194149000002) := hd (by simp only [List.length_cons, List.length_append, List.length_nil]; omega)
  clear hO7 HO6
  go_wp2_with fail
  refine (put_any ⟨#[125, 125]⟩ W _ (w.heap.size + 1) (RS.head RS.nString ++ (91 :: (T.sec t ++ 44 :: (R.t tx ++ [93])))) HB1.o ?_).mono ?_
  · have h1 := HLEN.o
    have : ByteArray.size ⟨#[125, 125]⟩ = 2 := rfl
    rw [List.length_append]
    omega
  rintro e w8 ⟨rfl, hO8⟩
  have hO9 : Ou W w8 (w.heap.size + 1) (RS.whole RS.nString ((91 :: (T.sec t ++ 44 :: (R.t tx ++ [93]))))) := hO8
  clear hO8
  obtain ⟨A', n', c', k1, k2, k3⟩ := hO9.ex
  have e0 := k1.cell 0 (by simp)
  simp only [List.getElem_cons_zero] at e0
  have HQ : Hd (w8.ownsRow w.heap.size 5 1 (.slice A' n' c') n' (cellsB (RS.whole RS.nString ((91 :: (T.sec t ++ 44 :: (R.t tx ++ [93]))))))) := hd (by subst k3; exact own_mono k2 (by omega))
  have HB3 : Hd (Below w.heap.size w w8) := hd (HBW.o.trans (hO9.bel.mono (by omega)))
  clear hO9 k1 k2 k3 HB1
  go_wp2
  go_ret
  exact ⟨⟨_, _, rfl, HQ.o⟩, HB3.o⟩
theorem res2_any (r : RS.Res) (w : World) (hk : r.Ok w) (ht : r.ty = 2) :
    Calls Tryd.prog 7 #[r.val] w fun e w' => (∃ v m, e = .returned v ∧ IsL 1 w' v m (cellsB (RS.bytes r))) ∧ Below w.heap.size w w' := (res2_own r w hk ht).mono fun _ _ h => ⟨by obtain ⟨v, m, h1, h2⟩ := h.1; exact ⟨v, m, h1, IsL.own h2⟩, h.2⟩
set_option maxRecDepth 100000 in
set_option maxHeartbeats 2000000 in
theorem res3_own (r : RS.Res) (w : World) (hk : r.Ok w) (ht : r.ty = 3) :
    Calls Tryd.prog 7 #[r.val] w fun e w' => (∃ v m, e = .returned v ∧ w'.ownsRow w.heap.size 5 1 v m (cellsB (RS.bytes r))) ∧ Below w.heap.size w w' := by
  obtain ⟨W, hW⟩ : ∃ W, W = w.alloc (.cells r.cells.toArray 26) := ⟨_, rfl⟩
  have HBW : Hd (Below w.heap.size w W) := hd (by rw [hW]; exact (Below.refl _ _).alloc (Nat.le_refl _) _)
  have hWz : W.heap.size = w.heap.size + 1 := by rw [hW]; simp
  have HK := hd (hk.below HBW.o)
  have HBX : Hd (∀ W' bs, Ou W W' (w.heap.size + 1) bs → ∀ j (hj : j < 6), W'.cell? ⟨w.heap.size, j, none⟩ = some (r.cells[j]'hj)) := hd fun W' bs h j hj => by
    rw [h.bel.cell (p := ⟨w.heap.size, j, none⟩) (Nat.lt_succ_self _), hW, World.cell?_alloc_mark, ← Array.getElem?_toList, List.getElem?_eq_getElem hj]
  have HBX0 : Hd (∀ j (hj : j < 6), W.cell? ⟨w.heap.size, j, none⟩ = some (r.cells[j]'hj)) := hd fun j hj => by
    rw [hW, World.cell?_alloc_mark, ← Array.getElem?_toList, List.getElem?_eq_getElem hj]
  have HO0 : Hd (Ou W (W.alloc (.cells #[.slice none 0 0] 51)) (w.heap.size + 1) []) := hd <| by
    refine ⟨⟨none, 0, 0, ?_, ⟨rfl, .inl ⟨rfl, rfl⟩⟩, rfl⟩, ?_⟩
    · show (W.heap.push (.cells #[.slice none 0 0] 51))[w.heap.size + 1]? = _
      rw [← hWz]; simp
    · exact (Below.refl _ _).alloc (by omega) _
  clear hk
  obtain ⟨ty, t, v, tx, eA, ec, E, sA, sc, S⟩ := r
  simp only at ht HK
  subst ht
  have HA : Hd (RS.bytes ⟨3, t, v, tx, eA, ec, E, sA, sc, S⟩ = RS.whole RS.nVector (R.lst (E.map (RS.el t)))) := hd (by unfold RS.bytes; simp)
  rw [HA.o]
  clear HA
  unfold RS.Res.val
  unfold RS.Res.cells at HBX HBX0 hW ⊢
  go_enter Tryd.func7, Tryd.ntmps7
  go_wp2_with fail
  rw [← hW]
  clear hW
  refine (put_any _ W _ (w.heap.size + 1) [] HO0.o (by decide)).mono ?_
  rintro e w1 ⟨rfl, hO1⟩
  have HO1 : Hd (Ou W w1 (w.heap.size + 1) RS.pre) := hd hO1
  clear hO1 HO0
  have b0 := HBX.o _ _ HO1.o 0 (by decide)
  simp only [List.getElem_cons_zero] at b0
  go_wp2_with fail
  refine (tname3 _).mono ?_
  rintro e w2 ⟨rfl, rfl⟩
  go_wp2_with fail
  refine (put_any _ W _ (w.heap.size + 1) RS.pre HO1.o (by decide)).mono ?_
  rintro e w3 ⟨rfl, hO3⟩
  have HO3 : Hd (Ou W w3 (w.heap.size + 1) (RS.head RS.nVector)) := hd hO3
  clear hO3 HO1 b0
  have hh := RS.head_len RS.nVector
  have hnm : (RS.nVector).length = 6 := rfl
  have b0 := HBX.o _ _ HO3.o 0 (by decide)
  have b1 := HBX.o _ _ HO3.o 1 (by decide)
  have b2 := HBX.o _ _ HO3.o 2 (by decide)
  have b3 := HBX.o _ _ HO3.o 3 (by decide)
  have b4 := HBX.o _ _ HO3.o 4 (by decide)
  have b5 := HBX.o _ _ HO3.o 5 (by decide)
  simp only [List.getElem_cons_zero, List.getElem_cons_succ] at b0 b1 b2 b3 b4 b5
  go_wp2_with fail
  have HH : Hd ((RS.head RS.nVector).length ≤ 20000000000000) := hd (by omega)
  refine (rlist1 (.pointer (some ⟨w.heap.size, 0, none⟩)) E.length (E.map (RS.el t)) W _ (w.heap.size + 1) (RS.head RS.nVector) (by rw [List.length_map]) HO3.o (fun k _ => HK.o.eJ k) HH.o HK.o.nE ?_).mono ?_
  · intro j hj cs' W' hO' hlen'
    rw [List.length_map] at hj
    rw [List.getElem_map]
    have hw : E[j].l.length + 1 ≤ RS.wt RS.gE E := RS.wt_mem RS.gE E E[j] (List.getElem_mem hj)
    have hw2 := HK.o.wE
    exact clo1_any w.heap.size t eA ec E W W' (w.heap.size + 1) cs' j hj HK.o.t0 HK.o.t1 HK.o.T hWz HK.o.E hO' (Nat.lt_succ_self _) (HBX0.o 1 (by decide)) (HBX0.o 4 (by decide)) hlen' (by simp only at hw2; omega)
  rintro e w4 ⟨rfl, hO4⟩
  have HB1 := hd hO4
  have HLEN := hd (RS.lst_le HK.o.eJ)
  clear hO4 HO3
  go_wp2_with fail
  refine (put_any ⟨#[125, 125]⟩ W _ (w.heap.size + 1) (RS.head RS.nVector ++ R.lst (E.map (RS.el t))) HB1.o ?_).mono ?_
  · have h1 := HLEN.o
    have : ByteArray.size ⟨#[125, 125]⟩ = 2 := rfl
    rw [List.length_append]
    omega
  rintro e w8 ⟨rfl, hO8⟩
  have hO9 : Ou W w8 (w.heap.size + 1) (RS.whole RS.nVector (R.lst (E.map (RS.el t)))) := hO8
  clear hO8
  obtain ⟨A', n', c', k1, k2, k3⟩ := hO9.ex
  have e0 := k1.cell 0 (by simp)
  simp only [List.getElem_cons_zero] at e0
  have HQ : Hd (w8.ownsRow w.heap.size 5 1 (.slice A' n' c') n' (cellsB (RS.whole RS.nVector (R.lst (E.map (RS.el t)))))) := hd (by subst k3; exact own_mono k2 (by omega))
  have HB3 : Hd (Below w.heap.size w w8) := hd (HBW.o.trans (hO9.bel.mono (by omega)))
  clear hO9 k1 k2 k3 HB1
  go_wp2
  go_ret
  exact ⟨⟨_, _, rfl, HQ.o⟩, HB3.o⟩
theorem res3_any (r : RS.Res) (w : World) (hk : r.Ok w) (ht : r.ty = 3) :
    Calls Tryd.prog 7 #[r.val] w fun e w' => (∃ v m, e = .returned v ∧ IsL 1 w' v m (cellsB (RS.bytes r))) ∧ Below w.heap.size w w' := (res3_own r w hk ht).mono fun _ _ h => ⟨by obtain ⟨v, m, h1, h2⟩ := h.1; exact ⟨v, m, h1, IsL.own h2⟩, h.2⟩
set_option maxRecDepth 100000 in
set_option maxHeartbeats 2000000 in
theorem res4_own (r : RS.Res) (w : World) (hk : r.Ok w) (ht : r.ty = 4) :
    Calls Tryd.prog 7 #[r.val] w fun e w' => (∃ v m, e = .returned v ∧ w'.ownsRow w.heap.size 5 1 v m (cellsB (RS.bytes r))) ∧ Below w.heap.size w w' := by
  obtain ⟨W, hW⟩ : ∃ W, W = w.alloc (.cells r.cells.toArray 26) := ⟨_, rfl⟩
  have HBW : Hd (Below w.heap.size w W) := hd (by rw [hW]; exact (Below.refl _ _).alloc (Nat.le_refl _) _)
  have hWz : W.heap.size = w.heap.size + 1 := by rw [hW]; simp
  have HK := hd (hk.below HBW.o)
  have HBX : Hd (∀ W' bs, Ou W W' (w.heap.size + 1) bs → ∀ j (hj : j < 6), W'.cell? ⟨w.heap.size, j, none⟩ = some (r.cells[j]'hj)) := hd fun W' bs h j hj => by
    rw [h.bel.cell (p := ⟨w.heap.size, j, none⟩) (Nat.lt_succ_self _), hW, World.cell?_alloc_mark, ← Array.getElem?_toList, List.getElem?_eq_getElem hj]
  have HBX0 : Hd (∀ j (hj : j < 6), W.cell? ⟨w.heap.size, j, none⟩ = some (r.cells[j]'hj)) := hd fun j hj => by
    rw [hW, World.cell?_alloc_mark, ← Array.getElem?_toList, List.getElem?_eq_getElem hj]
  have HO0 : Hd (Ou W (W.alloc (.cells #[.slice none 0 0] 51)) (w.heap.size + 1) []) := hd <| by
    refine ⟨⟨none, 0, 0, ?_, ⟨rfl, .inl ⟨rfl, rfl⟩⟩, rfl⟩, ?_⟩
    · show (W.heap.push (.cells #[.slice none 0 0] 51))[w.heap.size + 1]? = _
      rw [← hWz]; simp
    · exact (Below.refl _ _).alloc (by omega) _
  clear hk
  obtain ⟨ty, t, v, tx, eA, ec, E, sA, sc, S⟩ := r
  simp only at ht HK
  subst ht
  have HA : Hd (RS.bytes ⟨4, t, v, tx, eA, ec, E, sA, sc, S⟩ = RS.whole RS.nMatrix (R.lst (S.map RS.se))) := hd (by unfold RS.bytes; simp)
  rw [HA.o]
  clear HA
  unfold RS.Res.val
  unfold RS.Res.cells at HBX HBX0 hW ⊢
  go_enter Tryd.func7, Tryd.ntmps7
  go_wp2_with fail
  rw [← hW]
  clear hW
  refine (put_any _ W _ (w.heap.size + 1) [] HO0.o (by decide)).mono ?_
  rintro e w1 ⟨rfl, hO1⟩
  have HO1 : Hd (Ou W w1 (w.heap.size + 1) RS.pre) := hd hO1
  clear hO1 HO0
  have b0 := HBX.o _ _ HO1.o 0 (by decide)
  simp only [List.getElem_cons_zero] at b0
  go_wp2_with fail
  refine (tname4 _).mono ?_
  rintro e w2 ⟨rfl, rfl⟩
  go_wp2_with fail
  refine (put_any _ W _ (w.heap.size + 1) RS.pre HO1.o (by decide)).mono ?_
  rintro e w3 ⟨rfl, hO3⟩
  have HO3 : Hd (Ou W w3 (w.heap.size + 1) (RS.head RS.nMatrix)) := hd hO3
  clear hO3 HO1 b0
  have hh := RS.head_len RS.nMatrix
  have hnm : (RS.nMatrix).length = 6 := rfl
  have b0 := HBX.o _ _ HO3.o 0 (by decide)
  have b1 := HBX.o _ _ HO3.o 1 (by decide)
  have b2 := HBX.o _ _ HO3.o 2 (by decide)
  have b3 := HBX.o _ _ HO3.o 3 (by decide)
  have b4 := HBX.o _ _ HO3.o 4 (by decide)
  have b5 := HBX.o _ _ HO3.o 5 (by decide)
  simp only [List.getElem_cons_zero, List.getElem_cons_succ] at b0 b1 b2 b3 b4 b5
  go_wp2_with fail
  have HH : Hd ((RS.head RS.nMatrix).length ≤ 20000000000000) := hd (by omega)
  refine (rlist2 (.pointer (some ⟨w.heap.size, 0, none⟩)) S.length (S.map RS.se) W _ (w.heap.size + 1) (RS.head RS.nMatrix) (by rw [List.length_map]) HO3.o (fun k _ => HK.o.sJ k) HH.o HK.o.nS ?_).mono ?_
  · intro j hj cs' W' hO' hlen'
    rw [List.length_map] at hj
    rw [List.getElem_map]
    have hw : S[j].l.length + S[j].ps.length + 1 ≤ RS.wt RS.gS S := RS.wt_mem RS.gS S S[j] (List.getElem_mem hj)
    have hw2 := HK.o.wS
    exact clo2_any w.heap.size sA sc S W W' (w.heap.size + 1) cs' j hj HK.o.T hWz HK.o.S hO' (Nat.lt_succ_self _) (HBX0.o 5 (by decide)) hlen' (by simp only at hw2; omega) (by simp only at hw2; omega)
  rintro e w4 ⟨rfl, hO4⟩
  have HB1 := hd hO4
  have HLEN := hd (RS.lst_le HK.o.sJ)
  clear hO4 HO3
  go_wp2_with fail
  refine (put_any ⟨#[125, 125]⟩ W _ (w.heap.size + 1) (RS.head RS.nMatrix ++ R.lst (S.map RS.se)) HB1.o ?_).mono ?_
  · have h1 := HLEN.o
    have : ByteArray.size ⟨#[125, 125]⟩ = 2 := rfl
    rw [List.length_append]
    omega
  rintro e w8 ⟨rfl, hO8⟩
  have hO9 : Ou W w8 (w.heap.size + 1) (RS.whole RS.nMatrix (R.lst (S.map RS.se))) := hO8
  clear hO8
  obtain ⟨A', n', c', k1, k2, k3⟩ := hO9.ex
  have e0 := k1.cell 0 (by simp)
  simp only [List.getElem_cons_zero] at e0
  have HQ : Hd (w8.ownsRow w.heap.size 5 1 (.slice A' n' c') n' (cellsB (RS.whole RS.nMatrix (R.lst (S.map RS.se))))) := hd (by subst k3; exact own_mono k2 (by omega))
  have HB3 : Hd (Below w.heap.size w w8) := hd (HBW.o.trans (hO9.bel.mono (by omega)))
  clear hO9 k1 k2 k3 HB1
  go_wp2
  go_ret
  exact ⟨⟨_, _, rfl, HQ.o⟩, HB3.o⟩
theorem res4_any (r : RS.Res) (w : World) (hk : r.Ok w) (ht : r.ty = 4) :
    Calls Tryd.prog 7 #[r.val] w fun e w' => (∃ v m, e = .returned v ∧ IsL 1 w' v m (cellsB (RS.bytes r))) ∧ Below w.heap.size w w' := (res4_own r w hk ht).mono fun _ _ h => ⟨by obtain ⟨v, m, h1, h2⟩ := h.1; exact ⟨v, m, h1, IsL.own h2⟩, h.2⟩
set_option maxRecDepth 100000 in
set_option maxHeartbeats 2000000 in
theorem res0_own (r : RS.Res) (w : World) (hk : r.Ok w) (t1 : r.ty ≠ 1) (t2 : r.ty ≠ 2) (t3 : r.ty ≠ 3) (t4 : r.ty ≠ 4) :
    Calls Tryd.prog 7 #[r.val] w fun e w' => (∃ v m, e = .returned v ∧ w'.ownsRow w.heap.size 5 1 v m (cellsB (RS.bytes r))) ∧ Below w.heap.size w w' := by
  obtain ⟨W, hW⟩ : ∃ W, W = w.alloc (.cells r.cells.toArray 26) := ⟨_, rfl⟩
  have HBW : Hd (Below w.heap.size w W) := hd (by rw [hW]; exact (Below.refl _ _).alloc (Nat.le_refl _) _)
  have hWz : W.heap.size = w.heap.size + 1 := by rw [hW]; simp
  have HK := hd (hk.below HBW.o)
  have HBX : Hd (∀ W' bs, Ou W W' (w.heap.size + 1) bs → ∀ j (hj : j < 6), W'.cell? ⟨w.heap.size, j, none⟩ = some (r.cells[j]'hj)) := hd fun W' bs h j hj => by
    rw [h.bel.cell (p := ⟨w.heap.size, j, none⟩) (Nat.lt_succ_self _), hW, World.cell?_alloc_mark, ← Array.getElem?_toList, List.getElem?_eq_getElem hj]
  have HBX0 : Hd (∀ j (hj : j < 6), W.cell? ⟨w.heap.size, j, none⟩ = some (r.cells[j]'hj)) := hd fun j hj => by
    rw [hW, World.cell?_alloc_mark, ← Array.getElem?_toList, List.getElem?_eq_getElem hj]
  have HO0 : Hd (Ou W (W.alloc (.cells #[.slice none 0 0] 51)) (w.heap.size + 1) []) := hd <| by
    refine ⟨⟨none, 0, 0, ?_, ⟨rfl, .inl ⟨rfl, rfl⟩⟩, rfl⟩, ?_⟩
    · show (W.heap.push (.cells #[.slice none 0 0] 51))[w.heap.size + 1]? = _
      rw [← hWz]; simp
    · exact (Below.refl _ _).alloc (by omega) _
  clear hk
  obtain ⟨ty, t, v, tx, eA, ec, E, sA, sc, S⟩ := r
  simp only at t1 t2 t3 t4 HK
  have HA : Hd (RS.bytes ⟨ty, t, v, tx, eA, ec, E, sA, sc, S⟩ = RS.null) := hd (by unfold RS.bytes; rw [if_neg t1, if_neg t2, if_neg t3, if_neg t4])
  rw [HA.o]
  clear HA
  unfold RS.Res.val
  unfold RS.Res.cells at HBX HBX0 hW ⊢
  go_enter Tryd.func7, Tryd.ntmps7
  go_wp2_with fail
  rw [← hW]
  clear hW
  refine (put_any _ W _ (w.heap.size + 1) [] HO0.o (by decide)).mono ?_
  rintro e w1 ⟨rfl, hO1⟩
  have HO1 : Hd (Ou W w1 (w.heap.size + 1) RS.pre) := hd hO1
  clear hO1 HO0
  have b0 := HBX.o _ _ HO1.o 0 (by decide)
  simp only [List.getElem_cons_zero] at b0
  go_wp2_with fail
  refine (tname0 ty (by simpa using t1) (by simpa using t2) (by simpa using t3) (by simpa using t4) _).mono ?_
  rintro e w2 ⟨rfl, rfl⟩
  go_wp2_with fail
  refine (put_any _ W _ (w.heap.size + 1) RS.pre HO1.o (by decide)).mono ?_
  rintro e w3 ⟨rfl, hO3⟩
  have hO9 : Ou W w3 (w.heap.size + 1) RS.null := hO3
  clear hO3 HO1 b0
  obtain ⟨A', n', c', k1, k2, k3⟩ := hO9.ex
  have e0 := k1.cell 0 (by simp)
  simp only [List.getElem_cons_zero] at e0
  have HQ : Hd (w3.ownsRow w.heap.size 5 1 (.slice A' n' c') n' (cellsB RS.null)) := hd (by subst k3; exact own_mono k2 (by omega))
  have HB3 : Hd (Below w.heap.size w w3) := hd (HBW.o.trans (hO9.bel.mono (by omega)))
  clear hO9 k1 k2 k3
  go_wp2
  go_ret
  exact ⟨⟨_, _, rfl, HQ.o⟩, HB3.o⟩
theorem res0_any (r : RS.Res) (w : World) (hk : r.Ok w) (t1 : r.ty ≠ 1) (t2 : r.ty ≠ 2) (t3 : r.ty ≠ 3) (t4 : r.ty ≠ 4) :
    Calls Tryd.prog 7 #[r.val] w fun e w' => (∃ v m, e = .returned v ∧ IsL 1 w' v m (cellsB (RS.bytes r))) ∧ Below w.heap.size w w' := (res0_own r w hk t1 t2 t3 t4).mono fun _ _ h => ⟨by obtain ⟨v, m, h1, h2⟩ := h.1; exact ⟨v, m, h1, IsL.own h2⟩, h.2⟩
theorem res_own (r : RS.Res) (w : World) (hk : r.Ok w) :
    Calls Tryd.prog 7 #[r.val] w fun e w' => (∃ v m, e = .returned v ∧ w'.ownsRow w.heap.size 5 1 v m (cellsB (RS.bytes r))) ∧ Below w.heap.size w w' := by
  by_cases h1 : r.ty = 1
  · exact res1_own r w hk h1
  by_cases h2 : r.ty = 2
  · exact res2_own r w hk h2
  by_cases h3 : r.ty = 3
  · exact res3_own r w hk h3
  by_cases h4 : r.ty = 4
  · exact res4_own r w hk h4
  exact res0_own r w hk h1 h2 h3 h4
theorem res_any (r : RS.Res) (w : World) (hk : r.Ok w) :
    Calls Tryd.prog 7 #[r.val] w fun e w' => (∃ v m, e = .returned v ∧ IsL 1 w' v m (cellsB (RS.bytes r))) ∧ Below w.heap.size w w' := (res_own r w hk).mono fun _ _ h => ⟨by obtain ⟨v, m, h1, h2⟩ := h.1; exact ⟨v, m, h1, IsL.own h2⟩, h.2⟩
end Go.Proofs.YtcbggkdginfakaaDoor
