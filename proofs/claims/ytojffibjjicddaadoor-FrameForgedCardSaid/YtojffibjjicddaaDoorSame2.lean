/- The reference's Same of frames, and what is wrong with a frame. -/
import Derived.Test.YtojffibjjicddaaDoorSame
import Derived.Test.YtojffibjjicddaaDoorFrame3
namespace Go.Proofs.YtojffibjjicddaaDoor
open Go.RowKit
def sameF (d1 s1 d2 s2 : Int) (a b : List UInt8) : Bool := decide (d1 = d2 ∧ s1 = s2 ∧ a = b)
set_option maxRecDepth 100000 in
set_option maxHeartbeats 1000000 in

theorem fsame_any (w : World) (d1 s1 d2 s2 : Int) (v1 v2 : Value) (a b : List UInt8) (h1 : RdB w v1 a) (h2 : RdB w v2 b) (la : a.length ≤ 140737488355328) (lb : b.length ≤ 140737488355328) :
    Calls Tryd.prog 13 #[.agg #[.int .i64 d1, .int .i64 s1, v1], .agg #[.int .i64 d2, .int .i64 s2, v2]] w fun e w' => e = .returned (.bool (sameF d1 s1 d2 s2 a b)) ∧ Below w.heap.size w w' := by
  obtain ⟨A, c, rfl, ha⟩ := h1
  obtain ⟨B, d, rfl, hb⟩ := h2
  have HA := veil (show RdB w (.slice A a.length c) a from ⟨A, c, rfl, ha⟩)
  have HB := veil (show RdB w (.slice B b.length d) b from ⟨B, d, rfl, hb⟩)
  have HLA := veil la
  have HLB := veil lb
  clear ha hb la lb
  generalize hna : a.length = na at HA
  generalize hnb : b.length = nb at HB
  have BW := veil (show Below w.heap.size w ((w.alloc (.cells #[.int .i64 d1, .int .i64 s1, .slice A na c] 24)).alloc (.cells #[.int .i64 d2, .int .i64 s2, .slice B nb d] 24)) from ((Below.refl _ _).alloc (Nat.le_refl _) _).alloc (by simp) _)
  clear hna hnb
  go_enter Tryd.func13, Tryd.ntmps13
  by_cases hd : d1 = d2
  · subst hd
    by_cases hs : s1 = s2
    · subst hs
      have HR := veil (show sameF d1 s1 d1 s1 a b = decide (a = b) by simp [sameF])
      go_wp2_with (first
        | (go_at_call 15
           go_must (
            refine (same_any _ _ _ a b (HA.out.below BW.out) (HB.out.below BW.out) HLA.out HLB.out).mono ?_
            rintro e w' ⟨rfl, nd, rfl⟩)))
      go_ret
      exact ⟨by rw [HR.out]; rfl, below_drewN BW.out nd⟩
    · have HR := veil (show sameF d1 s1 d1 s2 a b = false by simp [sameF, hs])
      go_wp2
      go_ret
      exact ⟨by rw [HR.out]; rfl, BW.out⟩
  · have HR := veil (show sameF d1 s1 d2 s2 a b = false by simp [sameF, hd])
    go_wp2
    go_ret
    exact ⟨by rw [HR.out]; rfl, BW.out⟩
/-- What is wrong with a frame, by the reference. -/
def wrongP (d s : Int) (n : Nat) : Int := if (d ≠ 0 ∧ d ≠ 1) ∨ s < 1 ∨ 4611686018427387904 < s then 1 else if 486 < n then 6 else 0
set_option maxRecDepth 100000 in
set_option maxHeartbeats 1000000 in
theorem wrong_any (w : World) (d s : Int) (A : Option Addr) (n c : Nat) (hn : n ≤ 9223372036854775807) :
    Calls Tryd.prog 16 #[.agg #[.int .i64 d, .int .i64 s, .slice A n c]] w fun e w' => e = .returned (.int .i64 (wrongP d s n)) ∧ Below w.heap.size w w' := by
  have BW := veil (show Below w.heap.size w (w.alloc (.cells #[.int .i64 d, .int .i64 s, .slice A n c] 24)) from (Below.refl _ _).alloc (Nat.le_refl _) _)
  go_enter Tryd.func16, Tryd.ntmps16
  by_cases h1 : (d ≠ 0 ∧ d ≠ 1) ∨ s < 1 ∨ 4611686018427387904 < s
  · have HR := veil (show wrongP d s n = 1 by unfold wrongP; rw [if_pos h1])
    by_cases h0 : d = 0
    · subst h0
      by_cases h2 : s < 1
      · clear h1
        go_wp2
        go_ret
        exact ⟨by rw [HR.out]; rfl, BW.out⟩
      · have h3 : 4611686018427387904 < s := by omega
        clear h1
        go_wp2
        go_ret
        exact ⟨by rw [HR.out]; rfl, BW.out⟩
    · by_cases h01 : d = 1
      · subst h01
        by_cases h2 : s < 1
        · clear h1
          go_wp2
          go_ret
          exact ⟨by rw [HR.out]; rfl, BW.out⟩
        · have h3 : 4611686018427387904 < s := by omega
          clear h1
          go_wp2
          go_ret
          exact ⟨by rw [HR.out]; rfl, BW.out⟩
      · clear h1
        go_wp2
        go_ret
        exact ⟨by rw [HR.out]; rfl, BW.out⟩
  · have h2 : 1 ≤ s := by omega
    have h3 : s ≤ 4611686018427387904 := by omega
    have h0 : d = 0 ∨ d = 1 := by omega
    by_cases h4 : 486 < n
    · have HR := veil (show wrongP d s n = 6 by unfold wrongP; rw [if_neg h1, if_pos h4])
      clear h1
      rcases h0 with rfl | rfl
      all_goals
        go_wp2
        go_ret
        exact ⟨by rw [HR.out]; rfl, BW.out⟩
    · have HR := veil (show wrongP d s n = 0 by unfold wrongP; rw [if_neg h1, if_neg h4])
      clear h1
      rcases h0 with rfl | rfl
      all_goals
        go_wp2
        go_ret
        exact ⟨by rw [HR.out]; rfl, BW.out⟩
end Go.Proofs.YtojffibjjicddaaDoor
