/- mac.Equal says whether bytes are alike. -/
import Derived.Test.YtojffibjjicddaaDoorHash4
namespace Go.Proofs.YtojffibjjicddaaDoor
open Go.RowKit
def accU (a b : List UInt8) : Nat → UInt8
  | 0 => 0
  | i + 1 => accU a b i ||| (a.getD i 0 ^^^ b.getD i 0)
theorem u8_or_zero (x y : UInt8) : x ||| y = 0 ↔ x = 0 ∧ y = 0 := by
  have h : ∀ x y : BitVec 8, x ||| y = 0 ↔ x = 0 ∧ y = 0 := by
    intro x y
    constructor
    · intro h
      refine ⟨BitVec.eq_of_getLsbD_eq fun i hi => ?_, BitVec.eq_of_getLsbD_eq fun i hi => ?_⟩ <;>
      · have h1 := congrArg (·.getLsbD i) h
        simp at h1 ⊢
        simp [h1]
    · rintro ⟨rfl, rfl⟩; simp
  have h1 := h x.toBitVec y.toBitVec
  constructor
  · intro e
    obtain ⟨h2, h3⟩ := h1.1 (by have := congrArg UInt8.toBitVec e; simpa using this)
    exact ⟨UInt8.toBitVec_inj.1 h2, UInt8.toBitVec_inj.1 h3⟩
  · rintro ⟨rfl, rfl⟩; rfl
theorem u8_xor_zero (x y : UInt8) : x ^^^ y = 0 ↔ x = y := by
  constructor
  · intro h
    have h1 : (x ^^^ y).toBitVec = 0 := congrArg UInt8.toBitVec h
    rw [UInt8.toBitVec_xor] at h1
    exact UInt8.toBitVec_inj.1 (BitVec.xor_eq_zero_iff.1 h1)
  · rintro rfl; exact UInt8.xor_self
theorem accU_zero (a b : List UInt8) : ∀ n, accU a b n = 0 ↔ ∀ i, i < n → a.getD i 0 = b.getD i 0
  | 0 => by simp [accU]
  | n + 1 => by
    rw [accU, u8_or_zero, accU_zero a b n, u8_xor_zero]
    constructor
    · rintro ⟨h1, h2⟩ i hi
      rcases Nat.lt_succ_iff_lt_or_eq.1 hi with h3 | rfl
      · exact h1 i h3
      · exact h2
    · exact fun h => ⟨fun i hi => h i (by omega), h n (by omega)⟩
theorem accU_eq (a b : List UInt8) (h : a.length = b.length) : (accU a b a.length = 0) ↔ a = b := by
  rw [accU_zero]
  constructor
  · intro h1
    refine List.ext_getElem h fun i hi hi' => ?_
    have := h1 i hi
    rwa [List.getD_eq_getElem?_getD, List.getD_eq_getElem?_getD, List.getElem?_eq_getElem hi, List.getElem?_eq_getElem hi'] at this
  · rintro rfl i _; rfl
set_option maxRecDepth 100000 in
set_option maxHeartbeats 1000000 in
theorem equal_any (w : World) (v1 v2 : Value) (a b : List UInt8) (h1 : RdB w v1 a) (h2 : RdB w v2 b) (la : a.length ≤ 1048576) (lb : b.length ≤ 1048576) :
    Calls Tryd.prog 26 #[v1, v2] w fun e w' => e = .returned (.bool (decide (a = b))) ∧ w' = w := by
  obtain ⟨A, c, rfl, ha⟩ := h1
  obtain ⟨B, d, rfl, hb⟩ := h2
  have HA := veil ha
  have HB := veil hb
  generalize hna : a.length = na at HA la
  generalize hnb : b.length = nb at HB lb
  have HNA := veil hna
  have HNB := veil hnb
  clear ha hb hna hnb
  go_enter Tryd.func26, Tryd.ntmps26
  by_cases hl : na = nb
  · subst hl
    go_upto_block 0 with (fail)
    go_wp2
    go_loopw [5, 15] (fun x j wr => ∃ (i : Nat), i ≤ na ∧ j = .int .i64 i ∧ x = .int .u8 ((accU a b i).toNat : Int) ∧ wr = w) (fun _ j _ => na - (intOf j).toNat)
    case atStart => exact ⟨0, by omega, rfl, rfl, rfl⟩
    case round =>
      obtain ⟨i, hi, rfl, rfl, rfl⟩ := hrel
      by_cases hlt : i < na
      · obtain ⟨g, o, rfl, hc⟩ := HA.out (by omega)
        obtain ⟨g', o', rfl, hc'⟩ := HB.out (by omega)
        have c1 := hc i hlt
        have c2 := hc' i hlt
        have HS := veil (show accU a b (i + 1) = accU a b i ||| (a.getD i 0 ^^^ b.getD i 0) from rfl)
        clear hc hc'
        have lx := (a.getD i 0).toNat_lt
        have ly := (b.getD i 0).toNat_lt
        have lz := (accU a b i).toNat_lt
        generalize a.getD i 0 = x at c1 lx HS
        generalize b.getD i 0 = y at c2 ly HS
        generalize accU a b i = z at lz HS ⊢
        go_wp2
        go_roundw
        case rel =>
          refine ⟨i + 1, by omega, by go_num, ?_, (by first | rfl | trivial)⟩
          rw [HS.out, xor_u8 _ _ lx ly, or_u8 _ _ lz (Nat.xor_lt_two_pow (n := 8) lx ly), UInt8.toNat_or, UInt8.toNat_xor]
        case measure => simp [intOf]; omega
      · obtain rfl : i = na := by omega
        have HE := veil (accU_eq a b (by rw [HNA.out, HNB.out]))
        rw [HNA.out] at HE
        generalize accU a b i = z at HE ⊢
        go_wp2
        go_ret
        refine ⟨?_, rfl⟩
        show Ending.returned (.bool ((z.toNat : Int) == 0)) = _
        have e1 : ((z.toNat : Int) == 0) = decide (a = b) := by
          by_cases hz : a = b
          · have h7 := HE.out.2 hz
            subst h7
            rw [decide_eq_true hz]; rfl
          · rw [decide_eq_false hz]
            have h7 : z ≠ 0 := fun e => hz (HE.out.1 e)
            have h8 : z.toNat ≠ 0 := fun e => h7 (UInt8.toNat_inj.1 e)
            simp; exact h8
        rw [e1]
  · have HNE := veil (show a ≠ b from fun e => hl (by rw [← HNA.out, ← HNB.out, e]))
    go_wp2
    go_ret
    exact ⟨by rw [decide_eq_false HNE.out]; rfl, rfl⟩
end Go.Proofs.YtojffibjjicddaaDoor
