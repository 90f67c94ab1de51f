/- The reference's Same of bytes. -/
import Derived.Test.YtojffibjjicddaaDoorHash4
namespace Go.Proofs.YtojffibjjicddaaDoor
open Go.RowKit
theorem agree_succ (a b : List UInt8) (i : Nat) (h : ∀ j, j < i → a.getD j 0 = b.getD j 0) (e : a.getD i 0 = b.getD i 0) : ∀ j, j < i + 1 → a.getD j 0 = b.getD j 0 := by
  intro j hj
  rcases Nat.lt_succ_iff_lt_or_eq.1 hj with h1 | rfl
  · exact h j h1
  · exact e
theorem agree_all (a b : List UInt8) (hl : a.length = b.length) (h : ∀ j, j < a.length → a.getD j 0 = b.getD j 0) : a = b := by
  refine List.ext_getElem hl fun i hi hi' => ?_
  have := h i hi
  rwa [List.getD_eq_getElem?_getD, List.getD_eq_getElem?_getD, List.getElem?_eq_getElem hi, List.getElem?_eq_getElem hi'] at this
set_option maxRecDepth 100000 in
set_option maxHeartbeats 1000000 in
/-- The reference's Same. -/
theorem same_any (w : World) (v1 v2 : Value) (a b : List UInt8) (h1 : RdB w v1 a) (h2 : RdB w v2 b) (la : a.length ≤ 140737488355328) (lb : b.length ≤ 140737488355328) :
    Calls Tryd.prog 15 #[v1, v2] w fun e w' => e = .returned (.bool (decide (a = b))) ∧ ∃ n, w' = w.drewN n := by
  obtain ⟨A, c, rfl, ha⟩ := h1
  obtain ⟨B, d, rfl, hb⟩ := h2
  have HA := veil ha
  have HB := veil hb
  generalize hna : a.length = na at HA la
  generalize hnb : b.length = nb at HB lb
  have HNA := veil hna
  have HNB := veil hnb
  clear ha hb hna hnb
  go_enter Tryd.func15, Tryd.ntmps15
  by_cases hl : na = nb
  · subst hl
    go_upto_block 0 with (fail)
    go_wp2
    go_loopw [5] (fun j wr => ∃ (i : Nat), i ≤ na ∧ j = .int .i64 i ∧ (∀ j, j < i → a.getD j 0 = b.getD j 0) ∧ ∃ n, wr = w.drewN n) (fun j _ => na - (intOf j).toNat)
    case atStart => exact ⟨0, by omega, rfl, fun j hj => by omega, 0, rfl⟩
    case round =>
      obtain ⟨i, hi, rfl, hag, nd, rfl⟩ := hrel
      have HAG := veil hag
      clear hag
      by_cases hlt : i < na
      · obtain ⟨g, o, rfl, hc⟩ := HA.out (by omega)
        obtain ⟨g', o', rfl, hc'⟩ := HB.out (by omega)
        have c1 := hc i hlt
        have c2 := hc' i hlt
        have hli : (i : Int) < (na : Int) := by omega
        by_cases hxy : a.getD i 0 = b.getD i 0
        · have HAG2 := veil (agree_succ a b i HAG.out hxy)
          rw [← hxy] at c2
          generalize a.getD i 0 = x at c1 c2
          clear hc hc' hxy
          go_wp2
          go_quiet (fail)
          go_wp2
          go_roundw
          case rel => exact ⟨i + 1, by omega, by go_num, HAG2.out, nd + nq, rfl⟩
          case measure => simp [intOf]; omega
        · have HNE := veil (show a ≠ b from fun e => hxy (by rw [e]))
          have e1 : (((a.getD i 0).toNat : Int) != ((b.getD i 0).toNat : Int)) = true := by
            have h7 : (a.getD i 0).toNat ≠ (b.getD i 0).toNat := fun e => hxy (UInt8.toNat_inj.1 e)
            exact bne_iff_ne.2 (fun e => h7 (by exact_mod_cast e))
          generalize a.getD i 0 = x at c1 e1
          generalize b.getD i 0 = y at c2 e1
          clear hc hc' hxy
          go_wp2
          go_quiet (fail)
          go_wp2
          go_ret
          exact ⟨by rw [decide_eq_false HNE.out]; rfl, nd + nq, World.drewN_drewN _ _ _⟩
      · obtain rfl : i = na := by omega
        have HE := veil (agree_all a b (by rw [HNA.out, HNB.out]) (by rw [HNA.out]; exact HAG.out))
        go_wp2
        go_ret
        exact ⟨by rw [decide_eq_true HE.out]; rfl, nd, rfl⟩
  · have HNE := veil (show a ≠ b from fun e => hl (by rw [← HNA.out, ← HNB.out, e]))
    go_wp2
    go_ret
    exact ⟨by rw [decide_eq_false HNE.out]; rfl, 0, rfl⟩
end Go.Proofs.YtojffibjjicddaaDoor
