/- Contracts of hash.turn and hash.digits. -/
import Derived.Test.YtojffibjjicddaaDoorProg
import Derived.Test.YtojffibjjicddaaDoorLib
import Derived.Test.YtojffibjjicddaaDoorSha
import Derived.Lib.ConvBytes
namespace Go.Proofs.YtojffibjjicddaaDoor
open Go.RowKit
/-- A slot that is read. -/
theorem turn_any (x n : Nat) (hx : x < 4294967296) (hn : n ≤ 32) (w : World) : Calls Tryd.prog 60 #[.int .u32 x, .int .i64 n] w fun e w' => e = .returned (.int .u32 (rotr x n : Nat)) ∧ ∃ k, w' = w.drewN k := by
  have e1 : ((x : Int) / 2 ^ n) = ((x >>> n : Nat) : Int) := by rw [Nat.shiftRight_eq_div_pow]; simp
  have e2 : ((x : Int) * 2 ^ (32 - n) % 4294967296) = (((x <<< (32 - n)) % 4294967296 : Nat) : Int) := by rw [Nat.shiftLeft_eq]; simp
  have h1 : x >>> n < 4294967296 := by rw [Nat.shiftRight_eq_div_pow]; exact Nat.lt_of_le_of_lt (Nat.div_le_self _ _) hx
  have E := veil (show bits .or .u32 ((x : Int) / 2 ^ n) ((x : Int) * 2 ^ (32 - n) % 4294967296) = ((rotr x n : Nat) : Int) by rw [e1, e2, or_u32 _ _ h1 (by omega)]; rfl)
  clear e1 e2 h1
  go_enter Tryd.func60, Tryd.ntmps60
  go_wp2
  go_quiet (fail)
  go_wp2
  go_ret
  exact ⟨ret_of E.out, _, rfl⟩

theorem turn_i (x : Nat) (n : Int) (hx : x < 4294967296) (h0 : 0 ≤ n) (hn : n ≤ 32) (w : World) : Calls Tryd.prog 60 #[.int .u32 x, .int .i64 n] w fun e w' => e = .returned (.int .u32 (rotr x n.toNat : Nat)) ∧ ∃ k, w' = w.drewN k := by
  obtain ⟨m, rfl⟩ := Int.eq_ofNat_of_zero_le h0
  exact turn_any x m hx (by omega) w
set_option maxRecDepth 100000 in
set_option maxHeartbeats 400000 in
theorem digits_any (s : ByteArray) (i : Nat) (hs : s.size ≤ 1000) (hi : 8 * i + 8 ≤ s.size) (w : World) : Calls Tryd.prog 54 #[.string s, .int .i64 i] w fun e w' => e = .returned (.int .u32 (hexw s.data.toList i : Nat)) ∧ Below w.heap.size w w' := by
  have hi1 : 8 * (i : Int) + 8 ≤ s.size := by omega
  have hcv := fun (w : World) (s : ByteArray) => Lib.run_convert_string_bytes (P := Tryd.prog) w 9 22 5 s Tryd.underlying9 Tryd.underlying22 Tryd.underlying5
  have hsl := fun (w : World) => run_slice_str (P := Tryd.prog) w 9 Tryd.underlying9 s .i64 .i64 (8 * (i : Int)) (8 * (i : Int) + 8) (8 * i) (8 * i + 8) (by omega) (by omega) (by omega) hi
  go_enter Tryd.func54, Tryd.ntmps54
  go_wp2
  go_loop [5, 17] (fun x j => ∃ k : Nat, k ≤ 8 ∧ j = .int .i64 k ∧ x = .int .u32 (hexN s.data.toList (8 * i) k : Nat)) (fun _ j => 8 - (intOf j).toNat)
  case atStart => exact ⟨0, by omega, rfl, rfl⟩
  case round =>
    obtain ⟨k, hk, rfl, rfl⟩ := hrel
    by_cases hlt : k < 8
    · have g := Lib.bytesWorld_cell w 5 (s.extract (8 * i) (8 * i + 8)) k (by simp; omega)
      rw [extract_getD s _ _ k (by omega) hi] at g
      have hc := (s.data.toList.getD (8 * i + k) 0).toNat_lt
      generalize hcc : s.data.toList.getD (8 * i + k) 0 = c at g hc
      have HC := veil hcc
      clear hcc
      have hlt32 := hexN_lt s.data.toList (8 * i) k
      by_cases h97 : 97 ≤ c.toNat
      all_goals
        go_wp2
        go_round
        case rel =>
          refine ⟨k + 1, by omega, by go_num, ?_⟩
          congr 1
          first
            | (rw [hexN_hi _ _ _ c HC.out h97, show ((hexN s.data.toList (8 * i) k : Nat) : Int) * 16 % 4294967296 = (((hexN s.data.toList (8 * i) k) * 16 % 4294967296 : Nat) : Int) by omega, show (c.toNat : Int) - 87 = ((c.toNat - 87 : Nat) : Int) by omega]; exact or_u32 _ _ (by omega) (by omega))
            | (rw [hexN_lo _ _ _ c HC.out h97, show ((hexN s.data.toList (8 * i) k : Nat) : Int) * 16 % 4294967296 = (((hexN s.data.toList (8 * i) k) * 16 % 4294967296 : Nat) : Int) by omega, show ((c.toNat : Int) - 48) % 256 = (((c.toNat + 208) % 256 : Nat) : Int) by omega]; exact or_u32 _ _ (by omega) (by omega))
        case measure => simp [intOf]; omega
    · go_wp2
      go_ret
      obtain rfl : k = 8 := by omega
      exact ⟨rfl, below_bytes _ _ _⟩
end Go.Proofs.YtojffibjjicddaaDoor
