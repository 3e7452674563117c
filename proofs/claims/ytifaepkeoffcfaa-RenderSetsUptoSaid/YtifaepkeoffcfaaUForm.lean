/- The walks of utf.tail, utf.isRune, utf.form: a rune's form put behind a row of the caller's. -/
import Derived.Test.YtifaepkeoffcfaaUWalkA
import Derived.Test.YtifaepkeoffcfaaUBits
namespace Go.Proofs.Ytifaepkeoffcfaa
open Go.RowKit
theorem tail_any (r : Int) (w : World) (h0 : 0 ≤ r) (h : r ≤ 1114111) :
    Calls Try.prog 95 #[.int .i32 r] w fun e w' => e = .returned (.int .u8 (128 + r % 64)) ∧ w = w' := by
  have e1 := and63 r h0 (by omega)
  have e2 := or128 (r % 64) (by omega) (by omega)
  have e3 : r % 64 % 256 = r % 64 := by omega
  go_enter Try.func95, Try.ntmps95
  go_wp2
  go_ret
  exact ⟨rfl, rfl⟩
theorem info_u8 : (Try.prog.info? 5).map (fun i => (i.zero, i.size, i.bytes)) = some (some (.int .u8 0), 1, 1) := by kernel_rfl

theorem form_any (r : Int) (hv : Utf8.valid r = true) (B : Nat) (v : Value) (n : Nat) (xs : List Value) (w : World) (hown : w.ownsRow B 5 1 v n xs) (hB : B ≤ w.heap.size) (hn : n ≤ 140737488351232) :
    Calls Try.prog 78 #[v, .int .i32 r] w (Appd B 5 1 w v n xs (Utf8.encode r).toList.length (cellsB (Utf8.encode r).toList)) := by
  have hr := (U.valid_iff _).1 hv
  have hr0 : 0 ≤ r := by omega
  have hr1 : r ≤ 1114111 := by omega
  clear hr
  have HV : Unit → Utf8.valid r = true := fun _ => hv
  clear hv
  by_cases h1 : r < 128
  · go_enter Try.func78, Try.ntmps78
    go_wp2_with (at_builtin; refine wpList_app_lit 40 5 (.int .u8 0) 1 1 Try.underlying40 info_u8 rfl (by decide) rfl _ _ rfl B v n xs w #[.int .u8 r] 1 rfl rfl hown rfl ?c1 ?c2 ?c3 hB ?_)
    case c1 => simp [Value.oneCell']
    case c2 => omega
    case c3 => omega
    intro v' w' ho hg
    go_wp2
    go_ret
    refine ⟨v', rfl, ?_, hg⟩
    obtain ⟨m, rfl⟩ := Int.eq_ofNat_of_zero_le hr0
    rw [U.enc_list m (HV ())]
    rw [if_pos (by omega)]
    have e : cellsB [UInt8.ofNat (m)] = [.int .u8 (m : Int)] := by
      simp only [cellsB, List.map_cons, List.map_nil]; rw [U.ofNat_toNat _ (by omega)]
    rw [e]
    exact ho
  by_cases h2 : r < 2048
  · have e6 : r / 64 % 256 = r / 64 := by omega
    have o1 := or192 (r / 64) (by omega) (by omega)
    go_enter Try.func78, Try.ntmps78
    go_wp2_with (first | (go_at_call 95; refine (tail_any _ _ (by omega) (by omega)).mono ?_; rintro e w' ⟨rfl, rfl⟩) | (at_builtin; refine wpList_app_lit 40 5 (.int .u8 0) 1 1 Try.underlying40 info_u8 rfl (by decide) rfl _ _ rfl B v n xs w #[.int .u8 (192 + r / 64), .int .u8 (128 + r % 64)] 2 rfl rfl hown rfl ?c1 ?c2 ?c3 hB ?_))
    case c1 => simp [Value.oneCell']
    case c2 => omega
    case c3 => omega
    intro v' w' ho hg
    go_wp2
    go_ret
    refine ⟨v', rfl, ?_, hg⟩
    obtain ⟨m, rfl⟩ := Int.eq_ofNat_of_zero_le hr0
    rw [U.enc_list m (HV ())]
    rw [if_neg (by omega), if_pos (by omega)]
    have e : cellsB [UInt8.ofNat (192 + m / 64), UInt8.ofNat (128 + m % 64)] = [.int .u8 (192 + (m : Int) / 64), .int .u8 (128 + (m : Int) % 64)] := by
      simp only [cellsB, List.map_cons, List.map_nil]; rw [U.ofNat_toNat _ (by omega), U.ofNat_toNat _ (by omega)]; rfl
    rw [e]
    exact ho
  by_cases h3 : r < 65536
  · have e6 : r / 4096 % 256 = r / 4096 := by omega
    have o1 := or224 (r / 4096) (by omega) (by omega)
    go_enter Try.func78, Try.ntmps78
    go_wp2_with (first | (go_at_call 95; refine (tail_any _ _ (by omega) (by omega)).mono ?_; rintro e w' ⟨rfl, rfl⟩) | (at_builtin; refine wpList_app_lit 40 5 (.int .u8 0) 1 1 Try.underlying40 info_u8 rfl (by decide) rfl _ _ rfl B v n xs w #[.int .u8 (224 + r / 4096), .int .u8 (128 + r / 64 % 64), .int .u8 (128 + r % 64)] 3 rfl rfl hown rfl ?c1 ?c2 ?c3 hB ?_))
    case c1 => simp [Value.oneCell']
    case c2 => omega
    case c3 => omega
    intro v' w' ho hg
    go_wp2
    go_ret
    refine ⟨v', rfl, ?_, hg⟩
    obtain ⟨m, rfl⟩ := Int.eq_ofNat_of_zero_le hr0
    rw [U.enc_list m (HV ())]
    rw [if_neg (by omega), if_neg (by omega), if_pos (by omega)]
    have e : cellsB [UInt8.ofNat (224 + m / 4096), UInt8.ofNat (128 + m / 64 % 64), UInt8.ofNat (128 + m % 64)] = [.int .u8 (224 + (m : Int) / 4096), .int .u8 (128 + (m : Int) / 64 % 64), .int .u8 (128 + (m : Int) % 64)] := by
      simp only [cellsB, List.map_cons, List.map_nil]; rw [U.ofNat_toNat _ (by omega), U.ofNat_toNat _ (by omega), U.ofNat_toNat _ (by omega)]; rfl
    rw [e]
    exact ho
  · have e6 : r / 262144 % 256 = r / 262144 := by omega
    have o1 := or240 (r / 262144) (by omega) (by omega)
    go_enter Try.func78, Try.ntmps78
    go_wp2_with (first | (go_at_call 95; refine (tail_any _ _ (by omega) (by omega)).mono ?_; rintro e w' ⟨rfl, rfl⟩) | (at_builtin; refine wpList_app_lit 40 5 (.int .u8 0) 1 1 Try.underlying40 info_u8 rfl (by decide) rfl _ _ rfl B v n xs w #[.int .u8 (240 + r / 262144), .int .u8 (128 + r / 4096 % 64), .int .u8 (128 + r / 64 % 64), .int .u8 (128 + r % 64)] 4 rfl rfl hown rfl ?c1 ?c2 ?c3 hB ?_))
    case c1 => simp [Value.oneCell']
    case c2 => omega
    case c3 => omega
    intro v' w' ho hg
    go_wp2
    go_ret
    refine ⟨v', rfl, ?_, hg⟩
    obtain ⟨m, rfl⟩ := Int.eq_ofNat_of_zero_le hr0
    rw [U.enc_list m (HV ())]
    rw [if_neg (by omega), if_neg (by omega), if_neg (by omega)]
    have e : cellsB [UInt8.ofNat (240 + m / 262144), UInt8.ofNat (128 + m / 4096 % 64), UInt8.ofNat (128 + m / 64 % 64), UInt8.ofNat (128 + m % 64)] = [.int .u8 (240 + (m : Int) / 262144), .int .u8 (128 + (m : Int) / 4096 % 64), .int .u8 (128 + (m : Int) / 64 % 64), .int .u8 (128 + (m : Int) % 64)] := by
      simp only [cellsB, List.map_cons, List.map_nil]; rw [U.ofNat_toNat _ (by omega), U.ofNat_toNat _ (by omega), U.ofNat_toNat _ (by omega), U.ofNat_toNat _ (by omega)]; rfl
    rw [e]
    exact ho
end Go.Proofs.Ytifaepkeoffcfaa
