/- The reference's words of hexadecimal digits, its turn, its both. -/
import Derived.Test.YtojffibjjicddaaDoorHash0
namespace Go.Proofs.YtojffibjjicddaaDoor
open Go.RowKit
def hexr (c : UInt8) : Nat := if 97 ≤ c.toNat then c.toNat - 87 else c.toNat - 48
def wordR (s : List UInt8) (o : Nat) : Nat → Nat
  | 0 => 0
  | k + 1 => 16 * wordR s o k + hexr (s.getD (o + k) 0)
theorem hexr_le (c : UInt8) : hexr c ≤ 207 := by
  unfold hexr
  have := c.toNat_lt
  split <;> omega
theorem wordR_le (s : List UInt8) (o k : Nat) : wordR s o k + 14 ≤ 14 * 16 ^ k := by
  induction k with
  | zero => simp [wordR]
  | succ k ih =>
    have := hexr_le (s.getD (o + k) 0)
    rw [wordR, Nat.pow_succ]
    omega
theorem wordR_rounds : ∀ t, t < 64 → wordR roundsL (8 * t) 8 = Kt t := by decide +kernel
theorem wordR_begin : ∀ t, t < 8 → wordR beginL (8 * t) 8 = H0.l.getD t 0 := by decide +kernel
theorem low_rounds : ∀ t, t < 512 → 48 ≤ (roundsL.getD t 0).toNat := by decide +kernel
theorem low_begin : ∀ t, t < 64 → 48 ≤ (beginL.getD t 0).toNat := by decide +kernel
theorem wordR_lt8 (s : List UInt8) (o k : Nat) (hk : k ≤ 8) : wordR s o k ≤ 60129542144 := by
  have h1 := wordR_le s o k
  have h2 : 16 ^ k ≤ 16 ^ 8 := Nat.pow_le_pow_right (by decide) hk
  omega
theorem str_at (s : ByteArray) (j : Nat) (h : j < s.size) : s[j] = s.data.toList.getD j 0 := by
  have : j < s.data.toList.length := by simpa using h
  rw [List.getD_eq_getElem?_getD, List.getElem?_eq_getElem this]
  rfl
set_option maxRecDepth 100000 in
set_option maxHeartbeats 1000000 in
theorem word_any (s : ByteArray) (i : Nat) (hi : 8 * i + 8 ≤ s.size) (hn : s.size ≤ 1000) (hlow : ∀ j, j < s.size → 48 ≤ (s.data.toList.getD j 0).toNat) (w : World) :
    Calls Tryd.prog 51 #[.string s, .int .i64 i] w fun e w' => e = .returned (.int .i64 (wordR s.data.toList (8 * i) 8 : Nat)) ∧ w' = w := by
  have HLOW := veil hlow
  clear hlow
  go_enter Tryd.func51, Tryd.ntmps51
  go_wp2
  go_loopw [5, 6] (fun x j wr => ∃ (n k : Nat), n = 8 * i + k ∧ k ≤ 8 ∧ j = .int .i64 (n : Int) ∧ x = .int .i64 (wordR s.data.toList (8 * i) k : Nat) ∧ wr = w) (fun _ j _ => 8 * i + 8 - (intOf j).toNat)
  case atStart => exact ⟨8 * i, 0, rfl, by omega, by simp, rfl, rfl⟩
  case round =>
    obtain ⟨n, k, hnk, hk, rfl, rfl, rfl⟩ := hrel
    have HNK := veil hnk
    have hx := wordR_lt8 s.data.toList (8 * i) k hk
    by_cases hlt : k < 8
    · have hj : n < s.size := by omega
      have hlo := HLOW.out n hj
      have HS := veil (show wordR s.data.toList (8 * i) (k + 1) = 16 * wordR s.data.toList (8 * i) k + hexr (s.data.toList.getD n 0) by rw [hnk]; rfl)
      have ha := str_at s n hj
      have hlt2 : (n : Int) < 8 * (i : Int) + 8 := by omega
      generalize hc : s.data.toList.getD n 0 = c at hlo HS ha
      generalize wordR s.data.toList (8 * i) k = x at hx HS ⊢
      clear hc hnk hlt
      have hcl := c.toNat_lt
      by_cases h97 : 97 ≤ c.toNat
      · have HH := veil (show hexr c = c.toNat - 87 by unfold hexr; rw [if_pos h97])
        go_wp2
        go_roundw
        case rel => exact ⟨n + 1, k + 1, by have := HNK.out; omega, by have := HNK.out; omega, by go_num, by rw [HS.out, HH.out]; congr 1; omega, (by first | rfl | trivial)⟩
        case measure => simp [intOf]; omega
      · have HH := veil (show hexr c = c.toNat - 48 by unfold hexr; rw [if_neg h97])
        go_wp2
        go_roundw
        case rel => exact ⟨n + 1, k + 1, by have := HNK.out; omega, by have := HNK.out; omega, by go_num, by rw [HS.out, HH.out]; congr 1; omega, (by first | rfl | trivial)⟩
        case measure => simp [intOf]; omega
    · obtain rfl : k = 8 := by omega
      generalize hq : wordR s.data.toList (8 * i) 8 = x at hx ⊢
      have HQ := veil hq
      clear hq
      have hge : ¬ (n : Int) < 8 * (i : Int) + 8 := by omega
      clear hnk
      go_wp2
      go_ret
      exact ⟨by rw [HQ.out]; rfl, rfl⟩
theorem word_rounds (s : ByteArray) (i : Nat) (hs : s.data.toList = roundsL) (hi : i < 64) (w : World) : Calls Tryd.prog 51 #[.string s, .int .i64 i] w fun e w' => e = .returned (.int .i64 (Kt i : Nat)) ∧ w' = w := by
  have hsz : s.size = 512 := by
    have : s.data.toList.length = 512 := by rw [hs]; exact roundsL_length
    simpa using this
  refine (word_any s i (by omega) (by omega) (fun j hj => by rw [hs]; exact low_rounds j (by omega)) w).mono fun e w' ⟨he, hb⟩ => ⟨?_, hb⟩
  rw [he, hs, wordR_rounds i hi]
theorem word_begin (s : ByteArray) (i : Nat) (hs : s.data.toList = beginL) (hi : i < 8) (w : World) : Calls Tryd.prog 51 #[.string s, .int .i64 i] w fun e w' => e = .returned (.int .i64 (H0.l.getD i 0 : Nat)) ∧ w' = w := by
  have hsz : s.size = 64 := by
    have : s.data.toList.length = 64 := by rw [hs]; exact beginL_length
    simpa using this
  refine (word_any s i (by omega) (by omega) (fun j hj => by rw [hs]; exact low_begin j (by omega)) w).mono fun e w' ⟨he, hb⟩ => ⟨?_, hb⟩
  rw [he, hs, wordR_begin i hi]
theorem turnR_eq (x n : Nat) (hx : x < 4294967296) : (x >>> n ||| x <<< (32 - n)) &&& 4294967295 = rotr x n := by
  have h1 : (4294967295 : Nat) = 2 ^ 32 - 1 := by decide
  rw [h1, Nat.and_two_pow_sub_one_eq_mod, Nat.or_mod_two_pow]
  unfold rotr
  rw [Nat.mod_eq_of_lt]
  rw [Nat.shiftRight_eq_div_pow]
  exact Nat.lt_of_le_of_lt (Nat.div_le_self _ _) hx
theorem bothR_any (x y : Nat) (hx : x < 4294967296) (hy : y < 4294967296) (w : World) : Calls Tryd.prog 58 #[.int .i64 x, .int .i64 y] w fun e w' => e = .returned (.int .i64 (x &&& y : Nat)) ∧ w' = w := by
  have HE := veil (and_i64 x y (by omega) (by omega))
  go_enter Tryd.func58, Tryd.ntmps58
  go_wp2
  go_ret
  exact ⟨by rw [← HE.out]; rfl, rfl⟩
set_option maxRecDepth 100000 in
theorem turnR_any (x n : Nat) (hx : x < 4294967296) (hn : 1 ≤ n) (hn2 : n ≤ 31) (w : World) : Calls Tryd.prog 57 #[.int .i64 x, .int .i64 n] w fun e w' => e = .returned (.int .i64 (rotr x n : Nat)) ∧ w' = w := by
  have HE := veil (turnR_eq x n hx)
  have HP := veil (show x <<< (32 - n) < 9223372036854775808 by
    rw [Nat.shiftLeft_eq]
    exact Nat.lt_of_le_of_lt (Nat.mul_le_mul_left x (Nat.pow_le_pow_right (by decide) (show 32 - n ≤ 31 by omega))) (by omega))
  have HP1 := veil (show x >>> n < 9223372036854775808 by
    rw [Nat.shiftRight_eq_div_pow]
    exact Nat.lt_of_le_of_lt (Nat.div_le_self _ _) (by omega))
  have E1 := veil (show ((x : Int) / 2 ^ n) = ((x >>> n : Nat) : Int) by rw [Nat.shiftRight_eq_div_pow]; exact_mod_cast rfl)
  have E2 := veil (show wrap64 ((x : Int) * 2 ^ (32 - n)) = ((x <<< (32 - n) : Nat) : Int) by
    have h1 : ((x : Int) * 2 ^ (32 - n)) = ((x <<< (32 - n) : Nat) : Int) := by rw [Nat.shiftLeft_eq]; exact_mod_cast rfl
    have h2 := HP.out
    rw [h1]
    generalize x <<< (32 - n) = y at h2 ⊢
    unfold wrap64
    omega)
  go_enter Tryd.func57, Tryd.ntmps57
  go_wp2
  go_ret
  refine ⟨?_, rfl⟩
  show Ending.returned (.int .i64 (bits .and .i64 (bits .or .i64 ((x : Int) / 2 ^ n) (wrap64 ((x : Int) * 2 ^ (32 - n)))) 4294967295)) = _
  rw [E1.out, E2.out, or_i64 _ _ HP1.out HP.out]
  have h3 : (x >>> n ||| x <<< (32 - n)) < 9223372036854775808 := Nat.or_lt_two_pow (n := 63) HP1.out HP.out
  have h4 := and_i64 (x >>> n ||| x <<< (32 - n)) 4294967295 h3 (by decide)
  rw [HE.out] at h4
  exact ret_of h4
end Go.Proofs.YtojffibjjicddaaDoor
