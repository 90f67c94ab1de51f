/- The reference's Fill: a text, filled up. -/
import Derived.Test.YtojffibjjicddaaDoorR1
import Derived.Test.YtojffibjjicddaaDoorFrameC
namespace Go.Proofs.YtojffibjjicddaaDoor
open Go.RowKit
set_option linter.unusedVariables false
set_option linter.unusedSimpArgs false
def fillR (t : List UInt8) : List UInt8 := t ++ tail t.length
theorem padz_iff (n k : Nat) (hk : k ≤ padz n) : (n + 1 + k) % 64 = 56 ↔ k = padz n := by unfold padz at *; omega
theorem padz_lt (n : Nat) : padz n < 64 := by unfold padz; omega
theorem low_byte (x : Nat) (z : Int) (h : z = (x : Int)) (hx : x < 9223372036854775808) : bits .and .i64 z 255 % 256 = ((UInt8.ofNat x).toNat : Int) := by
  subst h
  have h1 := and_i64 x 255 hx (by decide)
  have h2 : x &&& 255 = x % 256 := Nat.and_two_pow_sub_one_eq_mod x 8
  rw [h2] at h1
  rw [show ((255 : Nat) : Int) = 255 from rfl] at h1
  rw [h1, UInt8.toNat_ofNat']
  omega
set_option maxRecDepth 100000 in
set_option maxHeartbeats 2000000 in
theorem fillR_any (w : World) (v : Value) (t : List UInt8) (hb : Bs w v t) (hl : t.length ≤ 70368744177664) :
    Calls Tryd.prog 52 #[v] w fun e w' => ∃ A c, e = .returned (.slice A (fillR t).length c) ∧ Own w' w.heap.size 5 1 (.slice A (fillR t).length c) (fillR t).length (bcells (fillR t)) ∧ Below w.heap.size w w' := by
  obtain ⟨A, c, rfl, hc⟩ := hb.slice
  generalize hn : t.length = n at hb hl hc
  have HB := veil hb
  have HN := veil hn
  obtain ⟨i5, hi5, hz5, hs5, hb5⟩ := info_u8
  have I5 := veil (And.intro hi5 (And.intro hz5 (And.intro hs5 hb5)))
  clear hn hb hi5 hz5 hs5 hb5
  go_enter Tryd.func52, Tryd.ntmps52
  go_upto_block 0 with (first
    | (at_builtin
       go_must (
        first
        | (with_reducible apply wpL_append (m := t.length) (news := bcells t) (base := w.heap.size)
           · rfl
           · rfl
           · exact Tryd.underlying22
           · exact I5.out.1
           · exact I5.out.2.1
           · exact I5.out.2.2.1
           · exact I5.out.2.2.2
           · rfl
           · exact Own.made (cs := []) (Row.newAt (w := w) 5 [] rfl) (Nat.le_refl 0) rfl (Nat.zero_le _) w.heap.size (Nat.le_refl _)
           · exact (HB.out.alloc _).rd.src Tryd.underlying22
           · rw [HN.out]; omega
           · rw [HN.out]; omega
           · simp
           intro v1 w1 ho1 hbu1 hbk1 _
           rw [Nat.zero_add, HN.out] at ho1
           replace ho1 : Own w1 w.heap.size 5 1 v1 n (bcells t) := ho1
           obtain ⟨A1, c1, rfl⟩ := ho1.slice
           have O1 := veil ho1
           have B1 := veil ((((But.refl (fun _ => False) w).alloc _).own hbu1 (fun i hi => .inr (by have h7 := Option.some.inj (show some w.heap.size = some i from hi); omega))).below (fun _ _ hf => hf))
           have b1 := B1.out.size
           clear ho1 hbu1 hbk1)
        | (with_reducible apply wpL_append (m := 1) (news := bcells [128]) (base := w.heap.size)
           · rfl
           · rfl
           · exact Tryd.underlying22
           · exact I5.out.1
           · exact I5.out.2.1
           · exact I5.out.2.2.1
           · exact I5.out.2.2.2
           · rfl
           · exact O1.out.keep ((But.refl (fun _ => False) _).alloc _) (fun _ _ hf => hf)
           · exact src_one (x := 128) _ _ Tryd.underlying22 rfl
           · omega
           · omega
           · simp; omega
           intro v2 w2 ho2 hbu2 hbk2 _
           rw [← bcells_append] at ho2
           have O2 := veil ho2
           have B2 := veil ((((But.of_below (S := fun _ => False) B1.out).alloc _).own hbu2 (fun i hi => .inr (O1.out.lt i hi).1)).below (fun _ _ hf => hf))
           clear ho2 hbu2 hbk2)))
       | fail)
  go_wp2
  go_loopg [3] (padz n) (fun gk j wr => ∃ (k : Nat), gk + k = padz n ∧ Own wr w.heap.size 5 1 j (n + 1 + k) (bcells (t ++ 128 :: List.replicate k 0)) ∧ Below w.heap.size w wr)
  case atStart => exact ⟨0, by omega, O2.out, B2.out⟩
  case round =>
    obtain ⟨k, hgk, ho, hbl⟩ := hrel
    obtain ⟨A5, c5, rfl⟩ := ho.slice
    have HO := veil ho
    have HBL := veil hbl
    have bl := hbl.size
    clear ho hbl O2 B2
    have hp := padz_lt n
    have hiff := veil (padz_iff n k (by omega))
    by_cases hlt : (n + 1 + k) % 64 = 56
    · have hk : k = padz n := hiff.out.1 hlt
      have HK := veil hk
      have hk64 : k < 64 := by omega
      clear hk hiff hgk
      go_wp2
      generalize (((n : Int) + 1 + (k : Int)) % 64 != 56) = b14
      go_loopg [3, 5] 8 (fun gk v i wr => ∃ (m : Nat), gk + m = 8 ∧ i = .int .i64 m ∧ Own wr w.heap.size 5 1 v (n + 1 + k + m) (bcells (t ++ 128 :: (List.replicate k 0 ++ (be8 (8 * n)).take m))) ∧ Below w.heap.size w wr)
      case atStart => exact ⟨0, by omega, rfl, by rw [List.take_zero, List.append_nil]; exact HO.out, HBL.out⟩
      case round =>
        obtain ⟨m, hgm, rfl, ho, hbl⟩ := hrel
        clear HO HBL bl
        obtain ⟨A6, c6, rfl⟩ := ho.slice
        have HO := veil ho
        have HBL := veil hbl
        have bl := hbl.size
        clear ho hbl
        by_cases hlt : m < 8
        · rcases (show m = 0 ∨ m = 1 ∨ m = 2 ∨ m = 3 ∨ m = 4 ∨ m = 5 ∨ m = 6 ∨ m = 7 by omega) with rfl | rfl | rfl | rfl | rfl | rfl | rfl | rfl
          all_goals
            go_wp2_with (first
              | (at_builtin
                 with_reducible apply wpL_append (m := 1) (base := w.heap.size)
                 go_must (
                  · rfl
                  · rfl
                  · exact Tryd.underlying22
                  · exact I5.out.1
                  · exact I5.out.2.1
                  · exact I5.out.2.2.1
                  · exact I5.out.2.2.2
                  · rfl
                  · exact HO.out.keep ((But.refl (fun _ => False) _).alloc _) (fun _ _ hf => hf)
                  · first
                    | exact src_one (x := UInt8.ofNat ((8 * n) >>> 56)) _ _ Tryd.underlying22 (low_byte _ _ (by rw [Nat.shiftRight_eq_div_pow]; omega) (by rw [Nat.shiftRight_eq_div_pow]; omega))
                    | exact src_one (x := UInt8.ofNat ((8 * n) >>> 48)) _ _ Tryd.underlying22 (low_byte _ _ (by rw [Nat.shiftRight_eq_div_pow]; omega) (by rw [Nat.shiftRight_eq_div_pow]; omega))
                    | exact src_one (x := UInt8.ofNat ((8 * n) >>> 40)) _ _ Tryd.underlying22 (low_byte _ _ (by rw [Nat.shiftRight_eq_div_pow]; omega) (by rw [Nat.shiftRight_eq_div_pow]; omega))
                    | exact src_one (x := UInt8.ofNat ((8 * n) >>> 32)) _ _ Tryd.underlying22 (low_byte _ _ (by rw [Nat.shiftRight_eq_div_pow]; omega) (by rw [Nat.shiftRight_eq_div_pow]; omega))
                    | exact src_one (x := UInt8.ofNat ((8 * n) >>> 24)) _ _ Tryd.underlying22 (low_byte _ _ (by rw [Nat.shiftRight_eq_div_pow]; omega) (by rw [Nat.shiftRight_eq_div_pow]; omega))
                    | exact src_one (x := UInt8.ofNat ((8 * n) >>> 16)) _ _ Tryd.underlying22 (low_byte _ _ (by rw [Nat.shiftRight_eq_div_pow]; omega) (by rw [Nat.shiftRight_eq_div_pow]; omega))
                    | exact src_one (x := UInt8.ofNat ((8 * n) >>> 8)) _ _ Tryd.underlying22 (low_byte _ _ (by rw [Nat.shiftRight_eq_div_pow]; omega) (by rw [Nat.shiftRight_eq_div_pow]; omega))
                    | exact src_one (x := UInt8.ofNat (8 * n)) _ _ Tryd.underlying22 (low_byte _ _ (by omega) (by omega))
                  · omega
                  · omega
                  · simp; omega
                  intro v2 w2 ho2 hbu2 hbk2 _)))
            go_roundg (gk - 1)
            case measure => omega
            case rel =>
              first
                | refine ⟨1, by omega, rfl, ?_, ?_⟩
                | refine ⟨2, by omega, rfl, ?_, ?_⟩
                | refine ⟨3, by omega, rfl, ?_, ?_⟩
                | refine ⟨4, by omega, rfl, ?_, ?_⟩
                | refine ⟨5, by omega, rfl, ?_, ?_⟩
                | refine ⟨6, by omega, rfl, ?_, ?_⟩
                | refine ⟨7, by omega, rfl, ?_, ?_⟩
                | refine ⟨8, by omega, rfl, ?_, ?_⟩
              · rw [← bcells_append, List.append_assoc, List.cons_append, List.append_assoc] at ho2
                exact ho2
              · exact (((But.of_below (S := fun _ => False) HBL.out).alloc _).own hbu2 (fun i hi => .inr (HO.out.lt i hi).1)).below (fun _ _ hf => hf)
        · obtain rfl : m = 8 := by omega
          have HT := veil (show t ++ (128 :: (List.replicate k 0 ++ (be8 (8 * n)).take 8) : List UInt8) = fillR t by unfold fillR tail; rw [HN.out, HK.out]; rfl)
          have HTL := veil (show n + 1 + k + 8 = (fillR t).length by unfold fillR tail; simp [be8, HN.out, HK.out]; omega)
          go_wp2
          go_ret
          refine ⟨A6, c6, by rw [← HTL.out]; rfl, ?_, HBL.out⟩
          have h9 := HO.out
          rw [HT.out] at h9
          rw [← HTL.out]
          exact h9
    · have hne : ¬ k = padz n := fun e => hlt (hiff.out.2 e)
      clear hiff
      go_wp2_with (first
        | (at_builtin
           with_reducible apply wpL_append (m := 1) (news := bcells [0]) (base := w.heap.size)
           go_must (
            · rfl
            · rfl
            · exact Tryd.underlying22
            · exact I5.out.1
            · exact I5.out.2.1
            · exact I5.out.2.2.1
            · exact I5.out.2.2.2
            · rfl
            · exact HO.out.keep ((But.refl (fun _ => False) _).alloc _) (fun _ _ hf => hf)
            · exact src_one (x := 0) _ _ Tryd.underlying22 rfl
            · omega
            · omega
            · simp; omega
            intro v2 w2 ho2 hbu2 hbk2 _)))
      go_roundg (gk - 1)
      case measure => omega
      case rel =>
        refine ⟨k + 1, by omega, ?_, (((But.of_below (S := fun _ => False) HBL.out).alloc _).own hbu2 (fun i hi => .inr (HO.out.lt i hi).1)).below (fun _ _ hf => hf)⟩
        rw [← bcells_append, List.append_assoc, List.cons_append, ← List.replicate_succ'] at ho2
        exact ho2
end Go.Proofs.YtojffibjjicddaaDoor
