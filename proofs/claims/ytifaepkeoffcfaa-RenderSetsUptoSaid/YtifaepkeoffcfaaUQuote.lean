/- The walk of utf.Quote. -/
import Derived.Test.YtifaepkeoffcfaaUWrMath
import Derived.Test.YtifaepkeoffcfaaUUnq
import Derived.StillTailTactics
import Derived.Deep.RegionLaw
namespace Go.Proofs.Ytifaepkeoffcfaa
open Go.RowKit
set_option linter.unusedVariables false
set_option linter.unusedSimpArgs false

theorem and15 (r : Int) (h0 : 0 ≤ r) (h1 : r ≤ 2147483647) : bits .and .i32 r 15 = r % 16 := by
  obtain ⟨n, rfl⟩ := Int.eq_ofNat_of_zero_le h0
  have h := i32_and_nat n 15 (by omega) (by omega)
  have h2 : n &&& 15 = n % 16 := Nat.and_two_pow_sub_one_eq_mod n 4
  rw [h2] at h
  exact h.trans (by omega)
theorem U.hxN_lt : ∀ i, i < 16 → U.hxN i < 256 := by decide
theorem hexAt : ∀ (i : Nat) (h : i < (⟨#[48, 49, 50, 51, 52, 53, 54, 55, 56, 57, 97, 98, 99, 100, 101, 102]⟩ : ByteArray).size), ((⟨#[48, 49, 50, 51, 52, 53, 54, 55, 56, 57, 97, 98, 99, 100, 101, 102]⟩ : ByteArray)[i]'h).toNat = U.hxN i := by
  have : ∀ i : Fin 16, ((⟨#[48, 49, 50, 51, 52, 53, 54, 55, 56, 57, 97, 98, 99, 100, 101, 102]⟩ : ByteArray)[i.val]'i.isLt).toNat = U.hxN i := by decide +kernel
  exact fun i h => this ⟨i, h⟩

theorem run_hex (k : IntKind) (n : Int) (h0 : 0 ≤ n) (h1 : n < 16) (w : World) :
    (Instr.index 9 (.string ⟨#[48, 49, 50, 51, 52, 53, 54, 55, 56, 57, 97, 98, 99, 100, 101, 102]⟩) (.int k n)).run Try.prog w = .ok (.int .u8 (U.hxN n.toNat : Int)) w := by
  have hz : ((⟨#[48, 49, 50, 51, 52, 53, 54, 55, 56, 57, 97, 98, 99, 100, 101, 102]⟩ : ByteArray).size) = 16 := rfl
  rw [run_index_string _ _ _ _ _ Try.underlying9]
  rw [dif_pos (show 0 ≤ n ∧ n < _ by rw [hz]; omega)]
  rw [hexAt]

section
variable {P : Program} {ops : Array Oper} {o : Oper} {a : Act} {K : Act → World → Prop} {Q : Exit → Act → World → Prop} {E : Prop}
theorem step_app_lit (t e : TypeId) (z : Value) (size bytes : Nat) (ht : P.underlying t = some (.slice e)) (hinfo : (P.info? e).map (fun i => (i.zero, i.size, i.bytes)) = some (some z, size, bytes)) (hzs : z.cells.size = size) (hsz : 0 < size)
    (hgd : o.guard = none) (s x : Operand) (ho : o.op = .call { callee := .builtin .append, args := #[s, x], argTypes := #[t, t] })
    (B : Nat) (v : Value) (n : Nat) (xs : List Value) (W : World) (C : Array Value) (m : Nat) (hs : a.eval s = v) (hx : a.eval x = .slice (some ⟨W.heap.size, 0, none⟩) m m)
    (hown : W.ownsRow B e size v n xs) (hC : C.size = m * size) (h1 : ∀ u ∈ C.toList, u.oneCell' = true) (hb : (n + m) * bytes ≤ 140737488355328) (hn : n + m ≤ 140737488355328) (hB : B ≤ W.heap.size)
    (h : ∀ v' w', w'.ownsRow B e size v' (n + m) (xs ++ C.toList) → W.grownBy w' v.ownBlock → K (a.put o.dst v') w') :
    if Region.wanted o (yielded ops a.tmps) = true then Oper.wp P o a (W.alloc (.cells C e)).drew K Q else E := by
  have hw : Region.wanted o (yielded ops a.tmps) = true := by simp [Region.wanted, hgd]
  rw [if_pos hw]
  obtain ⟨i, hi, hz0, hz1, hz2⟩ := info_parts hinfo
  obtain ⟨v', w', hrun, h2, h3, _, h5⟩ := run_append_own_at (P := P) (W.alloc (.cells C e)).drew B t o.type e i z size bytes ht hi hz0 hz1 hz2 hzs hsz v n xs (hown.alloc _).drew ⟨W.heap.size, 0, none⟩ m m C.toList (by simpa using hC) (by
    intro j u hj
    rw [add_plain, Nat.zero_add]
    change (W.alloc (.cells C e)).cell? _ = _
    rw [World.cell?_alloc_mark]
    simpa using hj) h1 (by unfold maxLen; omega) hb (by change B ≤ (W.alloc (.cells C e)).heap.size; simp; omega)
  unfold Oper.wp execOp
  simp only [ho, resolve, invoke, builtin, Sem.run_bind, Sem.run_pure, Result.andThen_ok, List.map_toArray, List.map_cons, List.map_nil, hs, hx, hrun]
  exact h v' w' h2 (grown_of_alloc (W := W) (ob := .cells C e) ⟨h3.os, h3.tape, h3.output, h3.size, h3.block⟩)
end

end Go.Proofs.Ytifaepkeoffcfaa
