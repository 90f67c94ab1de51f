/- hash.Of is sha of the parts, joined. -/
import Derived.Test.YtojffibjjicddaaDoorHash5
namespace Go.Proofs.YtojffibjjicddaaDoor
open Go.RowKit
/-! ### What comes in parts -/
theorem blks_app (h : V8) (t p : List UInt8) : ∀ k, 64 * k ≤ t.length → blks h (t ++ p) k = blks h t k
  | 0, _ => rfl
  | k + 1, hk => by
    have ih := blks_app h t p k (by omega)
    simp only [blks]
    rw [ih, List.drop_append_of_le_length (by omega), List.take_append_of_le_length (by rw [List.length_drop]; omega)]
theorem blks_add (h : V8) (m : List UInt8) (k : Nat) : ∀ j, blks (blks h m k) (m.drop (64 * k)) j = blks h m (k + j)
  | 0 => rfl
  | j + 1 => by
    have ih := blks_add h m k j
    show blk (blks (blks h m k) (m.drop (64 * k)) j) (((m.drop (64 * k)).drop (64 * j)).take 64) = blk (blks h m (k + j)) ((m.drop (64 * (k + j))).take 64)
    rw [ih, List.drop_drop, Nat.mul_add]
theorem absR_length (t : List UInt8) : (absR t).length = t.length % 64 := by unfold absR; rw [List.length_drop]; omega
theorem absR_app (t p : List UInt8) : (t ++ p).drop (64 * (t.length / 64)) = absR t ++ p := List.drop_append_of_le_length (by omega)
theorem absH_app (h : V8) (t p : List UInt8) : absH (absH h t) (absR t ++ p) = absH h (t ++ p) := by
  have h1 := blks_add h (t ++ p) (t.length / 64) ((absR t ++ p).length / 64)
  rw [blks_app h t p _ (by omega), absR_app] at h1
  have h2 : t.length / 64 + (absR t ++ p).length / 64 = (t ++ p).length / 64 := by
    rw [List.length_append, absR_length, List.length_append]; omega
  rw [h2] at h1
  exact h1
theorem absR_app2 (t p : List UInt8) : absR (absR t ++ p) = absR (t ++ p) := by
  have h1 : absR (absR t ++ p) = ((t ++ p).drop (64 * (t.length / 64))).drop (64 * ((absR t ++ p).length / 64)) := by rw [absR_app]; rfl
  have h2 : t.length / 64 + (absR t ++ p).length / 64 = (t ++ p).length / 64 := by
    rw [List.length_append, absR_length, List.length_append]; omega
  rw [h1, List.drop_drop, ← Nat.mul_add, h2]
  rfl
theorem addPs_abs (h : V8) (ps : List (List UInt8)) : ∀ t, ps.foldl addP (absH h t, absR t) = (absH h (t ++ ps.flatten), absR (t ++ ps.flatten)) := by
  induction ps with
  | nil => intro t; simp
  | cons p ps ih =>
    intro t
    have h1 : addP (absH h t, absR t) p = (absH h (t ++ p), absR (t ++ p)) := by
      show (absH (absH h t) (absR t ++ p), absR (absR t ++ p)) = _
      rw [absH_app, absR_app2]
    rw [List.foldl_cons, h1, ih, List.flatten_cons, List.append_assoc]
theorem addPs_new (ps : List (List UInt8)) : ps.foldl addP (H0, []) = (absH H0 ps.flatten, absR ps.flatten) := by
  have h1 := addPs_abs H0 ps []
  exact h1
theorem sha_parts (m : List UInt8) : (absH (absH H0 m) (absR m ++ tail m.length)).bytes = sha m := by
  rw [absH_app]; rfl

theorem Parts.keep {w w' : World} {X : Nat → Prop} {pv : Value} {ps : List (List UInt8)} (h : Parts w (fun k => w.heap.size ≤ k) pv ps) (hb : Below w.heap.size w w') (hX : ∀ k, X k → w.heap.size ≤ k) : Parts w' X pv ps := by
  obtain ⟨A, c, h1, h2⟩ := h
  refine ⟨A, c, h1, fun hp => ?_⟩
  obtain ⟨g, off, h3, h4, h5⟩ := h2 hp
  refine ⟨g, off, h3, fun hx => h4 (hX g hx), fun j hj => ?_⟩
  obtain ⟨u, h6, h7, h8⟩ := h5 j hj
  exact ⟨u, (hb.cell (by show g < _; omega)).trans h6, h7.below hb, fun b hb' hx => h8 b hb' (hX b hx)⟩
set_option maxRecDepth 100000 in
set_option maxHeartbeats 1000000 in
theorem of_any (w : World) (pv : Value) (ps : List (List UInt8)) (hps : Parts w (fun k => w.heap.size ≤ k) pv ps) (hlen : ∀ p ∈ ps, p.length ≤ 1048576) (hpn : ps.length ≤ 1000) :
    Calls Tryd.prog 38 #[pv] w fun e w' => e = .returned (.agg (bcells (sha ps.flatten)).toArray) ∧ Below w.heap.size w w' := by
  have HPS := veil hps
  have HLEN := veil hlen
  have HN := veil hpn
  clear hps hlen hpn
  go_enter Tryd.func38, Tryd.ntmps38
  go_upto_region 1 with (fail)
  generalize hW1 : w.alloc _ = w1
  have RW := veil (show Row w1 w.heap.size 72 (List.replicate 32 (.int .u8 0)) by rw [← hW1]; exact Row.newAt _ _ rfl)
  have BW := veil (show Below w.heap.size w w1 by rw [← hW1]; exact (Below.refl _ _).alloc (Nat.le_refl _) _)
  have hw1 : w1.heap.size = w.heap.size + 1 := by rw [← hW1]; simp
  clear hW1
  have hbl := veil (show (bcells (sha ps.flatten)).length = 32 by rw [bcells_length, sha_length])
  generalize hby : bcells (sha ps.flatten) = by_ at hbl
  have HBY := veil hby
  have h1c := veil (show ∀ v ∈ by_, v.oneCell' = true by rw [← hby]; exact bcells_one _)
  clear hby
  go_wp2_with (first
    | (go_at_call 46
       go_must (
        refine (new_any _).mono ?_
        rintro e w2 ⟨rfl, hr2, hb2⟩
        rw [hw1] at hr2
        have R2 := veil hr2
        have B2 := veil hb2
        clear hr2 hb2))
    | (go_at_call 47
       go_must (
        refine (add_any w2 (w.heap.size + 1) H0 H0_ok [] (by simp) (.slice none 0 0) 0 (by omega) ⟨R2.out, Own.nil _ _ _ _, by simp [blockOf]⟩ (fun k => k = w.heap.size + 1) (fun k => by simp [blockOf]) pv ps (HPS.out.keep (below_step BW.out BW.out.size B2.out) (fun k hk => by omega)) HLEN.out HN.out).mono ?_
        rintro e w3 ⟨rfl, v3, hp3⟩
        have P3 := veil hp3
        have hfl := veil (flatten_le ps 1048576 HLEN.out)
        have hfl2 := veil (show ps.flatten.length ≤ 1048576000 from Nat.le_trans hfl.out (by have := HN.out; omega))
        clear hp3))
    | (go_at_call 48
       go_must (
        refine (end_any w3 (w.heap.size + 1) (ps.foldl addP (H0, [])).1 (by rw [addPs_new]; exact blks_ok H0_ok _ _) (ps.foldl addP (H0, [])).2 (by rw [addPs_new]; exact absR_lt _) v3 (0 + ps.flatten.length) (by have := hfl2.out; omega) (by rw [addPs_new, Nat.zero_add]; exact absR_length _) P3.out.st).mono ?_
        rintro e w4 ⟨he4, hb4⟩
        rw [addPs_new, Nat.zero_add] at he4
        simp only at he4
        rw [sha_parts, HBY.out] at he4
        subst he4
        have B4 := veil hb4
        clear hb4))
    | (with_reducible apply wpL_store
       go_must (
        · rfl
        · rfl
        · exact (P3.out.but.row (RW.out.below B2.out) (fun h7 => by have h8 : w.heap.size = w.heap.size + 1 := h7; omega)).below B4.out
        · rw [hbl.out]; decide
        · exact h1c.out
        · rw [hbl.out]; kernel_rfl
        intro w6 hr6 ho6)))
  have h6 := hr6.whole (n := 32) rfl hbl.out
  have BF : Below w.heap.size w w6 := ((((((But.of_below (S := fun _ => False) BW.out).trans (But.of_below B2.out)).own P3.out.but (fun i hi => .inr (by have h8 : i = w.heap.size + 1 := hi; omega))).trans (But.of_below B4.out)).only ho6 (.inr (Nat.le_refl _))).below (fun _ _ hf => hf))
  exact bodyPost_ret (results_cell_row rfl _ _ _ _ _ _ _ rfl h6 Tryd.underlying72 rfl (by rw [List.size_toArray, hbl.out]; kernel_rfl)) rfl ⟨by rw [HBY.out], BF⟩
end Go.Proofs.YtojffibjjicddaaDoor
