/- The walk of labels.Make. -/
import Derived.Test.YtifaepkeoffcfaaLSort
import Derived.Maps.OwnSet
namespace Go.Proofs.Ytifaepkeoffcfaa
open Go.RowKit Go.Maps
set_option linter.unusedVariables false
set_option linter.unusedSimpArgs false
theorem KS : Keyed Try.prog 9 := string_keyed Try.underlying9
theorem zeroI (w : World) : (zeroValue 3).run Try.prog w = .ok (.int .i64 0) w := by kernel_rfl
def skey (a : ByteArray) : Lit := .string a.data.toList
theorem skey_ne {a b : ByteArray} (h : a ≠ b) : skey a ≠ skey b := by
  intro e
  unfold skey at e
  apply h
  have : a.data.toList = b.data.toList := by injection e
  exact ByteArray.ext (Array.toList_inj.1 this)
theorem L.named_snoc (a : ByteArray) (x : Lb) : ∀ l : List Lb, L.named a (l ++ [x]) = (L.named a l || decide (x.1 = a))
  | [] => by simp [L.named]
  | y :: r => by
    simp only [List.cons_append, L.named]
    by_cases h : y.1 = a
    · rw [if_pos h, if_pos h]; rfl
    · rw [if_neg h, if_neg h, L.named_snoc a x r]
/-- the map knows just these names -/
structure Seen (D : DataW Unit) (l : List Lb) : Prop where
  m : Maps.IsMap D
  has : ∀ a, Maps.has D (skey a) = L.named a l
theorem Seen.nil : Seen (.map []) [] := ⟨Maps.isMap_empty, fun a => rfl⟩
theorem Seen.put {D : DataW Unit} {l : List Lb} (h : Seen D l) (x : Lb) (d : DataW Unit) : Seen (D.put (skey x.1) d) (l ++ [x]) := by
  refine ⟨h.m.put _ _, fun a => ?_⟩
  rw [L.named_snoc]
  by_cases e : x.1 = a
  · subst e
    rw [Maps.has_put_same h.m (by trivial)]; simp
  · rw [Maps.has_put_other (skey_ne (Ne.symm e)), h.has]; simp [e]
theorem map_below {w w' : World} {b n : Nat} {D : DataW Unit} {R : Value → Option (DataW Unit × List MemPlace)} (h : w.ownsMap Try.prog 9 R b n D) (hb : Below w.heap.size w w') : w'.ownsMap Try.prog 9 R b n D := by
  obtain ⟨es, clock, hh, rest⟩ := h
  exact ⟨es, clock, (hb.block b (Array.getElem?_eq_some_iff.1 hh).1).trans hh, rest⟩
theorem own_ne_map {w : World} {B : Nat} {e : TypeId} {size m : Nat} {v : Value} {xs : List Value} (ho : w.ownsRow B e size v m xs) {b n : Nat} {D : DataW Unit} {R : Value → Option (DataW Unit × List MemPlace)} (h : w.ownsMap Try.prog 9 R b n D) : v.ownBlock ≠ some b := by
  obtain ⟨es, clock, hh, _⟩ := h
  rcases ho.2 with ⟨rfl, _⟩ | ⟨g, cap, cur, rfl, _, hg, _⟩
  · simp [Value.ownBlock]
  · intro he
    have : g = b := by simpa [Value.ownBlock] using he
    rw [this, hh] at hg
    cases hg
namespace L
theorem full_snoc (l : List Lb) (x : Lb) : full (l ++ [x]) = full l ++ (if x.2.toList.isEmpty then [] else [x]) := by
  unfold full
  rw [List.filter_append]
  cases h : x.2.toList.isEmpty <;> simp [h]
theorem full_len (l : List Lb) : (full l).length ≤ l.length := List.length_filter_le _ _
theorem mkErrP_dist : ∀ (r b : List Lb), mkErrP b r = 0 → b.Pairwise (fun x y => x.1 ≠ y.1) → (b ++ r).Pairwise (fun x y => x.1 ≠ y.1)
  | [], b, _, hb => by simpa using hb
  | x :: r, b, h, hb => by
    unfold mkErrP at h
    split at h
    · rename_i h1
      split at h
      · rw [show b ++ x :: r = (b ++ [x]) ++ r by simp]
        refine mkErrP_dist r (b ++ [x]) h (List.pairwise_append.2 ⟨hb, List.pairwise_singleton .., fun a ha y hy => ?_⟩)
        rw [List.mem_singleton] at hy
        subst hy
        intro e
        simp only [Bool.and_eq_true, Bool.not_eq_true'] at h1
        have := (named_iff y.1 b).2 ⟨a, ha, e⟩
        rw [h1.2] at this
        cases this
      · cases h
    · cases h
theorem mkErr_dist {l : List Lb} (h : mkErr l = 0) : l.Pairwise (fun x y => x.1 ≠ y.1) := by
  have := mkErrP_dist l [] h List.Pairwise.nil
  simpa using this
/-- what comes out of the sort is what the reference made -/
theorem sorted_made {l O : List Lb} (h : mkErr l = 0) (hp : O.Perm (full l)) (hs : O.Pairwise (fun x y => lt y.1 x.1 = false)) : O = made l := by
  have hd := mkErr_dist h
  obtain ⟨q, s⟩ := mkL_spec l hd
  unfold made
  rw [if_pos h]
  refine srt_ext ?_ s (hp.trans q.symm)
  have hfd : (full l).Pairwise (fun x y => x.1 ≠ y.1) := List.Pairwise.filter _ hd
  have hod : O.Pairwise (fun x y => x.1 ≠ y.1) := (hp.pairwise_iff (fun h => Ne.symm h)).2 hfd
  refine List.Pairwise.imp₂ (fun a b h1 h2 => ?_) hs hod
  exact lt_of_ne (Ne.symm h2) h1
end L
set_option maxHeartbeats 4000000 in
theorem make_any (A : Option Addr) (n c : Nat) (l : List Lb) (w : World) (hl : IsL 2 w (.slice A n c) n (cellsL l)) (hn : n ≤ 4398046510976) (hS : ∀ y ∈ l, y.1.size ≤ 1125899906842624 ∧ y.2.size ≤ 1125899906842624) :
    Calls Try.prog 32 #[.slice A n c] w fun e w' => ∃ x, e = .returned (.tuple #[x, .int .i64 (L.mkErr l)]) ∧ w'.ownsRow w.heap.size 26 2 x (L.made l).length (cellsL (L.made l)) ∧ Below w.heap.size w w' := by
  have hll := IsLb.len hl
  have HL := hd hl
  have HLL := hd hll
  have HS := hd hS
  clear hl hll hS
  have hmm : ∀ (w : World) (k : Int), (Instr.makeMap 83 (some (.int .i64 k))).run Try.prog w = .ok (.map (some w.heap.size)) (w.alloc (.map #[] 0)) := fun w k => by
    simp [Instr.makeMap, run_underlying Try.underlying83, asInt, asIntOf]
  go_enter Try.func32, Try.ntmps32
  go_wp2_with (at_make; refine wpList_mk0 _ 23 26 (.agg #[.string ⟨#[]⟩, .string ⟨#[]⟩]) 2 32 Try.underlying23 info_label rfl _ _ rfl w.heap.size _ _ n rfl rfl ?b1 ?b2 ?b3 ?_)
  case b1 => omega
  case b2 => omega
  case b3 => simp
  intro w2 ho hg
  have hM0 : w2.ownsMap Try.prog 9 (plainElem Try.prog 3) w.heap.size 0 (.map [] : DataW Unit) := (World.ownsMap_made w Try.prog 9 (plainElem Try.prog 3)).kept hg (by simp)
  have hb2 : Below w.heap.size w w2 := bel_grown ((Below.refl _ _).alloc (Nat.le_refl _) _) hg (fun k h => by cases h)
  clear hg hmm
  go_wp2
  go_loopw [5, 18] (fun o x wr => ∃ (k : Nat) (D : DataW Unit), k ≤ n ∧ x = .int .i64 k ∧ Hd (wr.ownsRow w.heap.size 26 2 o (L.full (l.take k)).length (cellsL (L.full (l.take k)))) ∧ Hd (wr.ownsMap Try.prog 9 (plainElem Try.prog 3) w.heap.size k D ∧ Seen D (l.take k)) ∧ Hd (L.mkErrP (l.take k) (l.drop k) = L.mkErr l) ∧ Hd (Below w.heap.size w wr)) (fun _ x _ => n - (intOf x).toNat)
  case atStart => exact ⟨0, .map [], Nat.zero_le _, rfl, hd ho, hd ⟨hM0, Seen.nil⟩, hd rfl, hd hb2⟩
  case round =>
    obtain ⟨k, D, hk, rfl, HO, HM, hG, HB⟩ := hrel
    have hzr := HB.o.size
    by_cases hlt : k < n
    · have hkl : k < l.length := by rw [HLL.o]; exact hlt
      obtain ⟨b, off, rfl, hbl, c1, c2⟩ := IsLb.at_ HL.o k hkl
      have d1 := (HB.o.cell (p := ⟨b, off + k * 2, none⟩) hbl).trans c1
      have d2 := (HB.o.cell (p := ⟨b, off + k * 2 + 1, none⟩) hbl).trans c2
      obtain ⟨hs1, hs2⟩ := HS.o _ (List.getElem_mem hkl)
      have HST := hd (hG.o.symm.trans (L.mkErrP_step l k hkl))
      have HTK := hd (List.take_succ_eq_append_getElem hkl)
      have hpl : (L.full (l.take k)).length ≤ k := Nat.le_trans (L.full_len _) (List.length_take_le _ _)
      clear c1 c2 hG
      generalize l[k]'hkl = x at *
      obtain ⟨x1, x2⟩ := x
      simp only at d1 d2 hs1 hs2 HST
      have HBW : Hd (Below w.heap.size w (wr.alloc (.cells #[.string x1, .string x2] 26))) := hd (HB.o.alloc hzr _)
      have HOW : Hd ((wr.alloc (.cells #[.string x1, .string x2] 26)).ownsRow w.heap.size 26 2 u5 (L.full (l.take k)).length (cellsL (L.full (l.take k)))) := hd (HO.o.alloc _)
      have HMW : Hd ((wr.alloc (.cells #[.string x1, .string x2] 26)).ownsMap Try.prog 9 (plainElem Try.prog 3) w.heap.size k D ∧ Seen D (l.take k)) := hd ⟨HM.o.1.alloc _, HM.o.2⟩
      have HGN : Hd (w.heap.size < wr.heap.size) := hd HM.o.1.lt
      clear HO HM
      have hkey : Hd (keyOf Try.prog 9 (.string x1) = some (skey x1)) := hd (WideMaps.keyOf_string_mk Try.underlying9 (by unfold maxLen; omega))
      have LOOK : Hd (∀ bb, L.named x1 (l.take k) = bb → Maps.has D (skey x1) = bb) := hd fun bb h => (HMW.o.2.has x1).trans h
      cases h1 : L.named x1 (l.take k) with
      | true =>
        have G : Hd (L.mkErr l = 160) := hd (by rw [HST.o, h1]; cases L.lab x1 <;> rfl)
        have GM : Hd (L.made l = []) := hd (by unfold L.made; rw [if_neg (by rw [G.o]; decide)])
        have HAS := hd (LOOK.o _ h1)
        clear h1 HST LOOK
        go_wp2_with (at_lookup; refine wpList_lookup_own_ok_int _ rfl _ _ 83 rfl 9 3 .i64 KS Try.underlying83 Try.underlying3 (zeroI _) w.heap.size k D rfl HMW.o.1 _ (skey x1) rfl hkey.o ?_; intro cc hat hwc; rw [HAS.o]; clear hat hwc)
        go_ret2
        exact ⟨.slice none 0 0, ret_mk G.o.symm, by rw [GM.o]; exact World.ownsRow_nil _ _ _ _, HBW.o⟩
      | false =>
        have HAS := hd (LOOK.o _ h1)
        cases h2 : L.lab x1 with
        | false =>
          have C1 := hd (fun w' => by have h := isLabel_any x1 w' hs1; rw [h2] at h; exact h)
          have G : Hd (L.mkErr l = 160) := hd (by rw [HST.o, h1, h2]; rfl)
          have GM : Hd (L.made l = []) := hd (by unfold L.made; rw [if_neg (by rw [G.o]; decide)])
          clear h1 h2 HST LOOK
          go_wp2_with (first | (at_lookup; refine wpList_lookup_own_ok_int _ rfl _ _ 83 rfl 9 3 .i64 KS Try.underlying83 Try.underlying3 (zeroI _) w.heap.size k D rfl HMW.o.1 _ (skey x1) rfl hkey.o ?_; intro cc hat hwc; rw [HAS.o]; clear hat hwc) | (go_at_call 60; refine (C1.o _).mono ?_; rintro e w' ⟨rfl, rfl⟩))
          go_ret2
          exact ⟨.slice none 0 0, ret_mk G.o.symm, by rw [GM.o]; exact World.ownsRow_nil _ _ _ _, HBW.o⟩
        | true =>
          have C1 := hd (fun w' => by have h := isLabel_any x1 w' hs1; rw [h2] at h; exact h)
          have CB : Hd ((wr.alloc (.cells #[.string x1, .string x2] 26)).cell? ⟨wr.heap.size, 0, none⟩ = some (.string x1) ∧ (wr.alloc (.cells #[.string x1, .string x2] 26)).cell? ⟨wr.heap.size, 1, none⟩ = some (.string x2)) := hd (by constructor <;> simp)
          cases h3 : U.valid x2 with
          | false =>
            have C3 := hd (fun w' => by have h := Valid_any x2 w' hs2; rw [h3] at h; exact h)
            have G : Hd (L.mkErr l = 4) := hd (by rw [HST.o, h1, h2, h3]; rfl)
            have GM : Hd (L.made l = []) := hd (by unfold L.made; rw [if_neg (by rw [G.o]; decide)])
            clear h1 h2 h3 HST LOOK
            go_wp2_with (first | (at_lookup; refine wpList_lookup_own_ok_int _ rfl _ _ 83 rfl 9 3 .i64 KS Try.underlying83 Try.underlying3 (zeroI _) w.heap.size k D rfl HMW.o.1 _ (skey x1) rfl hkey.o ?_; intro cc hat hwc; rw [HAS.o]; clear hat hwc) | (go_at_call 60; refine (C1.o _).mono ?_; rintro e w' ⟨rfl, rfl⟩) | (go_at_call 61; refine (C3.o _).mono ?_; rintro e w3 ⟨rfl, hb⟩; have HB3 := hd (bel HBW.o hb); have HM3 := hd (map_below HMW.o.1 hb); have HO3 := hd (own_below HOW.o hb); have q1 := (hb.cell (p := ⟨wr.heap.size, 0, none⟩) (by simp)).trans (CB.o).1; have q2 := (hb.cell (p := ⟨wr.heap.size, 1, none⟩) (by simp)).trans (CB.o).2; clear hb))
            go_ret2
            exact ⟨.slice none 0 0, ret_mk G.o.symm, by rw [GM.o]; exact World.ownsRow_nil _ _ _ _, HB3.o⟩
          | true =>
            have C3 := hd (fun w' => by have h := Valid_any x2 w' hs2; rw [h3] at h; exact h)
            have G : Hd (L.mkErrP (l.take (k + 1)) (l.drop (k + 1)) = L.mkErr l) := hd (by rw [HST.o, h1, h2, h3]; rfl)
            have WF : Hd ((Lit.int .i64 (k : Int)).wf = true) := hd (WalkArith.wf_i64 (by omega))
            have NEB : Hd (some wr.heap.size ≠ some w.heap.size) := hd (fun e => by have h1 := HGN.o; have h2 : wr.heap.size = w.heap.size := Option.some.inj e; omega)
            have HSN := hd (HMW.o.2.put (x1, x2) (.lit (.int .i64 (k : Int))))
            have HFS := hd (L.full_snoc (l.take k) (x1, x2))
            rw [← HTK.o] at HSN HFS
            clear h1 h2 h3 HST LOOK
            cases h4 : x2.toList.isEmpty with
            | true =>
              have hem := empty_of h4
              rw [h4] at HFS
              go_wp2_with (first | (at_lookup; refine wpList_lookup_own_ok_int _ rfl _ _ 83 rfl 9 3 .i64 KS Try.underlying83 Try.underlying3 (zeroI _) w.heap.size k D rfl HMW.o.1 _ (skey x1) rfl hkey.o ?_; intro cc hat hwc; rw [HAS.o]; clear hat hwc) | (go_at_call 60; refine (C1.o _).mono ?_; rintro e w' ⟨rfl, rfl⟩) | (go_at_call 61; refine (C3.o _).mono ?_; rintro e w3 ⟨rfl, hb⟩; have HB3 := hd (bel HBW.o hb); have HM3 := hd (map_below HMW.o.1 hb); have HO3 := hd (own_below HOW.o hb); have q1 := (hb.cell (p := ⟨wr.heap.size, 0, none⟩) (by simp)).trans (CB.o).1; have q2 := (hb.cell (p := ⟨wr.heap.size, 1, none⟩) (by simp)).trans (CB.o).2; clear hb) | (at_mapUpdate; refine wpList_mapUpdate_own _ rfl _ _ _ 83 rfl 9 3 KS Try.underlying83 _ w.heap.size k D rfl HM3.o (by unfold maxLen; omega) _ _ (skey x1) rfl rfl hkey.o _ [] (plainElem_int Try.underlying3 WF.o) ?_; intro w4 hown4 hgr4; have HM4 := hd hown4; have HO4 := hd (HO3.o.kept hgr4 (.inr (own_ne_map HO3.o HM3.o))); have HB4 := hd (bel_grown HB3.o hgr4 (fun q h => by cases h; exact Nat.le_refl _)); have r1 := (hgr4.cell (a := ⟨wr.heap.size, 0, none⟩) q1 NEB.o); have r2 := (hgr4.cell (a := ⟨wr.heap.size, 1, none⟩) q2 NEB.o); clear hown4 hgr4 q1 q2))
              have HO5 : Hd (w4.ownsRow w.heap.size 26 2 u5 (L.full (l.take (k + 1))).length (cellsL (L.full (l.take (k + 1))))) := hd (by rw [HFS.o, if_pos trivial, List.append_nil]; exact HO4.o)
              go_roundw
              case rel => exact ⟨k + 1, _, by omega, by go_num, HO5, hd ⟨HM4.o, HSN.o⟩, G, HB4⟩
              case measure => simp [intOf]; omega
            | false =>
              have hem := nonempty_of h4
              rw [h4] at HFS
              go_wp2_with (first | (at_lookup; refine wpList_lookup_own_ok_int _ rfl _ _ 83 rfl 9 3 .i64 KS Try.underlying83 Try.underlying3 (zeroI _) w.heap.size k D rfl HMW.o.1 _ (skey x1) rfl hkey.o ?_; intro cc hat hwc; rw [HAS.o]; clear hat hwc) | (go_at_call 60; refine (C1.o _).mono ?_; rintro e w' ⟨rfl, rfl⟩) | (go_at_call 61; refine (C3.o _).mono ?_; rintro e w3 ⟨rfl, hb⟩; have HB3 := hd (bel HBW.o hb); have HM3 := hd (map_below HMW.o.1 hb); have HO3 := hd (own_below HOW.o hb); have q1 := (hb.cell (p := ⟨wr.heap.size, 0, none⟩) (by simp)).trans (CB.o).1; have q2 := (hb.cell (p := ⟨wr.heap.size, 1, none⟩) (by simp)).trans (CB.o).2; clear hb) | (at_mapUpdate; refine wpList_mapUpdate_own _ rfl _ _ _ 83 rfl 9 3 KS Try.underlying83 _ w.heap.size k D rfl HM3.o (by unfold maxLen; omega) _ _ (skey x1) rfl rfl hkey.o _ [] (plainElem_int Try.underlying3 WF.o) ?_; intro w4 hown4 hgr4; have HM4 := hd hown4; have HO4 := hd (HO3.o.kept hgr4 (.inr (own_ne_map HO3.o HM3.o))); have HB4 := hd (bel_grown HB3.o hgr4 (fun q h => by cases h; exact Nat.le_refl _)); have r1 := (hgr4.cell (a := ⟨wr.heap.size, 0, none⟩) q1 NEB.o); have r2 := (hgr4.cell (a := ⟨wr.heap.size, 1, none⟩) q2 NEB.o); clear hown4 hgr4 q1 q2) | (at_builtin; refine wpList_app_litH 23 26 (.agg #[.string ⟨#[]⟩, .string ⟨#[]⟩]) 2 32 Try.underlying23 info_label rfl (by decide) rfl _ _ rfl w.heap.size u5 (L.full (l.take k)).length (cellsL (L.full (l.take k))) _ #[.string x1, .string x2] 1 _ rfl rfl rfl (HO4.o) rfl (by simp [Value.oneCell']) (by omega) (by omega) HB4.o.size ?_))
              intro v5 w5 ho5 hg5
              have HB5 := hd (bel_grown HB4.o hg5 (fun g h => (HO4.o.lt g h).1))
              have HM5 := hd (HM4.o.kept hg5 (fun e => own_ne_map HO4.o HM4.o e.symm))
              have HO5 : Hd (w5.ownsRow w.heap.size 26 2 v5 (L.full (l.take (k + 1))).length (cellsL (L.full (l.take (k + 1))))) := hd <| by
                rw [HFS.o, if_neg (by simp), cellsL_app, List.length_append]
                simpa [cellsL] using ho5
              clear ho5 hg5
              go_wp2
              go_roundw
              case rel => exact ⟨k + 1, _, by omega, by go_num, HO5, hd ⟨HM5.o, HSN.o⟩, G, HB5⟩
              case measure => simp [intOf]; omega
    · have e : l.take k = l := List.take_of_length_le (by rw [HLL.o]; omega)
      have e2 : l.drop k = [] := List.drop_eq_nil_of_le (by rw [HLL.o]; omega)
      have G : Hd (L.mkErr l = 0) := hd (by rw [← hG.o, e2]; rfl)
      have hfl : (L.full l).length ≤ n := by have := L.full_len l; have := HLL.o; omega
      rw [e] at HO
      clear e e2 hG HM
      go_wp2_with (go_at_call 62; refine (sortLb_any _ w.heap.size (L.full l).length u5 (L.full l) HO.o (by omega)).mono ?_; rintro e w6 ⟨rfl, O', hp, hs, ho6, hg6⟩)
      have HE := hd (L.sorted_made G.o hp hs)
      have HB6 := hd (bel_grown HB.o hg6 (fun g h => (HO.o.lt g h).1))
      have HO6 := hd ho6
      have HPL := hd hp.length_eq
      clear hp hs ho6 hg6
      go_ret2
      exact ⟨_, ret_mk G.o.symm, by rw [← HE.o, HPL.o]; exact HO6.o, HB6.o⟩
end Go.Proofs.Ytifaepkeoffcfaa
