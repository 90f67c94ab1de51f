/- mac.Code is hmac. -/
import Derived.Test.YtojffibjjicddaaDoorMac3
import Derived.Deep.RegionHeld3
import Derived.Deep.MidRow
namespace Go.Proofs.YtojffibjjicddaaDoor
open Go.RowKit
set_option linter.unusedVariables false
set_option linter.unusedSimpArgs false
theorem keyBlock_length (k : List UInt8) (y : UInt8) (h : k.length ≤ 64 ∨ 64 < k.length) : (keyBlock k y).length = 64 := by
  unfold keyBlock
  by_cases h1 : 64 < k.length
  · rw [if_pos h1]; simp [sha_length]
  · rw [if_neg h1]; simp; omega
theorem keyBlock_len (k : List UInt8) (y : UInt8) : (keyBlock k y).length = 64 := keyBlock_length k y (by omega)
theorem Own.one1 {w : World} {base : Nat} {E : TypeId} {v : Value} {n : Nat} {cs : List Value} (h : Own w base E 1 v n cs) (hn : 0 < n) : ∃ g off c, v = .slice (some ⟨g, off, none⟩) n c ∧ base ≤ g ∧ g < w.heap.size := by
  obtain ⟨A, c, rfl⟩ := h.slice
  obtain ⟨g, off, rfl, h2, _⟩ := h.cell hn
  exact ⟨g, off, c, rfl, h2, (h.lt g rfl).2⟩
theorem one_of_slice {A : Option Addr} {n c : Nat} : (Value.slice A n c).oneCell' = true := rfl
set_option maxRecDepth 100000 in
set_option maxHeartbeats 1000000 in
theorem code_any (w : World) (kv : Value) (key : List UInt8) (hk : RdB w kv key) (hkb : ∀ b, blockOf kv = some b → b < w.heap.size) (hkl : key.length ≤ 1048576)
    (g off c : Nat) (u : Value) (part : List UInt8) (hu : w.cell? ⟨g, off, none⟩ = some u) (hup : RdB w u part) (hub : ∀ b, blockOf u = some b → b < w.heap.size) (hpl : part.length ≤ 1048576) :
    Calls Tryd.prog 31 #[kv, .slice (some ⟨g, off, none⟩) 1 c] w fun e w' => e = .returned (.agg (bcells (hmac key part)).toArray) ∧ Below w.heap.size w w' := by
  have HK := veil hk
  have HKB := veil hkb
  have HU := veil hu
  have HUP := veil hup
  have HUB := veil hub
  have HKL := veil hkl
  have HPL := veil hpl
  have U1 := veil (show u.oneCell' = true by obtain ⟨A, c, rfl, _⟩ := hup; rfl)
  clear hk hkb hu hup hub hkl hpl
  go_enter Tryd.func31, Tryd.ntmps31
  go_upto_region 1 with (fail)
  generalize hW1 : w.alloc _ = w1
  have RW := veil (show Row w1 w.heap.size 72 (List.replicate 32 (.int .u8 0)) by rw [← hW1]; exact Row.newAt _ _ rfl)
  have BW := veil (show Below w.heap.size w w1 by rw [← hW1]; exact (Below.refl _ _).alloc (Nat.le_refl _) _)
  have hw1 : w1.heap.size = w.heap.size + 1 := by rw [← hW1]; simp
  clear hW1
  go_upto_region 2 with (first
    | (go_at_call 40
       go_must (
        refine (clonep_any w1 g off c u ((BW.out.cell (block_lt_of_cell HU.out)).trans HU.out) U1.out).mono ?_
        rintro e w2 ⟨r1, rfl, ho1, hb1⟩
        obtain ⟨g1, o1, c1, rfl, hg1, hg1'⟩ := ho1.one1 (by decide)
        have O1 := veil ho1
        have B1 := veil hb1
        have b1 := hb1.size
        clear ho1 hb1))
    | (go_at_call 41
       go_must (
        refine (turned_any w2 kv key 54 ((HK.out.below BW.out).below B1.out) (fun b hb => by have := HKB.out b hb; omega) HKL.out).mono ?_
        rintro e w3 ⟨r2, rfl, ho2, hb2⟩
        obtain ⟨g2, o2, c2, rfl, hg2, hg2'⟩ := ho2.one1 (by decide)
        have O2 := veil ho2
        have B2 := veil hb2
        have b2 := hb2.size
        clear ho2 hb2))
    | (go_at_call 39
       go_must (
        refine (insert_any _ w1.heap.size (by simp; omega) g1 o1 c1 u (.slice (some ⟨g2, o2, none⟩) 64 c2) ((O1.out.below B2.out).keep ((But.refl (fun _ => False) w3).alloc _) (fun _ _ hf => hf)) w3.heap.size (Row.newAt (w := w3) 22 [.slice (some ⟨g2, o2, none⟩) 64 c2] rfl) (by omega) U1.out rfl).mono ?_
        rintro e w4 ⟨r3, rfl, ho3, hb3⟩
        obtain ⟨g3, o3, c3, rfl, hg3, hg3'⟩ := ho3.one1 (by decide)
        have O3 := veil ho3
        have B3 := veil hb3
        have b3 : w3.heap.size + 1 ≤ w4.heap.size := by have := hb3.size; simpa using this
        clear ho3 hb3))
    | (go_at_call 38
       go_must (
        refine (of_any w4 _ [keyBlock key 54, part] ⟨some ⟨g3, o3, none⟩, c3, rfl, fun _ => ⟨g3, o3, rfl, by show ¬ (w4.heap.size ≤ g3); omega, fun j hj => ?_⟩⟩ (fun p hp => ?_) (by simp)).mono ?_
        · obtain ⟨g9, o9, he9, _, hc9⟩ := O3.out.cell (by decide)
          injection he9 with he9
          injection he9 with he10 he11
          subst he10 he11
          rcases (show j = 0 ∨ j = 1 by have h9 : j < 2 := hj; omega) with rfl | rfl
          · exact ⟨_, (hc9 0 _ rfl).1, ((O2.out.rdB.1.keep ((But.refl (fun _ => False) w3).alloc _) (fun _ _ hf => hf)).keep B3.out (fun b hb e => by have := (Option.some.inj hb : g2 = b); omega)), fun b hb => by have := (Option.some.inj hb : g2 = b); show ¬ (w4.heap.size ≤ b); omega⟩
          · exact ⟨_, (hc9 1 _ rfl).1, (((((HUP.out.below BW.out).below B1.out).below B2.out).keep ((But.refl (fun _ => False) w3).alloc _) (fun _ _ hf => hf)).keep B3.out (fun b hb e => by have := HUB.out b hb; omega)), fun b hb => by have := HUB.out b hb; show ¬ (w4.heap.size ≤ b); omega⟩
        · rcases (show p = keyBlock key 54 ∨ p = part by simpa using hp) with rfl | rfl
          · rw [keyBlock_len]; decide
          · exact HPL.out
        rintro e w5 ⟨rfl, hb5⟩
        have B5 := veil hb5
        have b5 := hb5.size
        clear hb5
        rw [show [keyBlock key 54, part].flatten = keyBlock key 54 ++ part by simp]
        have hbl := veil (show (bcells (sha (keyBlock key 54 ++ part))).length = 32 by rw [bcells_length, sha_length])
        have h1c := veil (bcells_one (sha (keyBlock key 54 ++ part)))
        generalize hby : bcells (sha (keyBlock key 54 ++ part)) = by_ at hbl h1c
        have HBY := veil hby
        clear hby))
    | (with_reducible apply wpL_store
       go_must (
        · rfl
        · rfl
        · exact Row.newAt (w := w5) 72 (List.replicate 32 (.int .u8 0)) rfl
        · rw [hbl.out]; decide
        · exact h1c.out
        · rw [hbl.out]; kernel_rfl
        intro w6 hr6 ho6)))
  have h6 := veil (hr6.whole (n := 32) rfl hbl.out)
  have BF := veil (show Below w.heap.size w w6 from ((((((((But.of_below (S := fun _ => False) BW.out).trans (But.of_below B1.out)).trans (But.of_below B2.out)).alloc _).own B3.out (fun i hi => .inr (by have h8 : i = g1 := hi; omega))).trans (But.of_below B5.out)).alloc _).only ho6 (.inr (by omega))).below (fun _ _ hf => hf))
  have RW6 := veil (ho6.row ((((B3.out.row (((RW.out.below B1.out).below B2.out).alloc _) (fun e => by have h8 : w.heap.size = g1 := e; omega)).below B5.out).alloc _)) (by omega))
  have HK6 := veil (HK.out.below BF.out)
  have b6 := BF.out.size
  have l6 := h6.out.lt
  clear hr6 ho6 RW B1 B2 B3 B5 O1 O2 O3
  simp only [Act.put, List.setIfInBounds_toArray, List.set_cons_zero, List.set_cons_succ]
  go_region_held3 (fun _ => True) (trivial) (first
    | (go_at_call 41
       go_must (
        refine (turned_any w6.drew kv key 92 HK6.out (fun b hb => by have := HKB.out b hb; show b < w6.heap.size; omega) HKL.out).mono ?_
        rintro e w7 ⟨r7, rfl, ho7, hb7⟩
        obtain ⟨g7, o7, c7, rfl, hg7, hg7'⟩ := ho7.one1 (by decide)
        have O7 := veil ho7
        have B7 := veil (show Below w6.heap.size w6 w7 from ⟨hb7.os, hb7.tape, hb7.output, hb7.size, hb7.block⟩)
        have b7 := B7.out.size
        have hg8 : w6.heap.size ≤ g7 := hg7
        clear ho7 hb7))
    | (go_at_call 38
       go_must (
        refine (of_any _ _ [keyBlock key 92, sha (keyBlock key 54 ++ part)] ⟨some ⟨w7.heap.size, 0, none⟩, 2, rfl, fun _ => ⟨w7.heap.size, 0, rfl, by simp, fun j hj => ?_⟩⟩ (fun p hp => ?_) (by simp)).mono ?_
        · have R8 := Row.newAt (w := w7) 22 [.slice (some ⟨g7, o7, none⟩) 64 c7, .slice (some ⟨w5.heap.size, 0, none⟩) 32 32] rfl
          rcases (show j = 0 ∨ j = 1 by have h9 : j < 2 := hj; omega) with rfl | rfl
          · exact ⟨_, R8.cell (i := 0) rfl, (O7.out.rdB.1.keep ((But.refl (fun _ => False) w7).alloc _) (fun _ _ hf => hf)), fun b hb => by have := (Option.some.inj hb : g7 = b); simp; omega⟩
          · refine ⟨_, R8.cell (i := 1) rfl, ?_, fun b hb => by have := (Option.some.inj hb : w5.heap.size = b); simp; omega⟩
            have h9 := Own.made (n := 32) (cap := 32) (sz := 1) ((h6.out.below B7.out).alloc (.cells #[.slice (some ⟨g7, o7, none⟩) 64 c7, .slice (some ⟨w5.heap.size, 0, none⟩) 32 32] 22)) (Nat.le_refl _) (by rw [hbl.out]) (by omega) 0 (Nat.zero_le _)
            rw [← HBY.out, List.take_of_length_le (by rw [bcells_length, sha_length]; decide)] at h9
            exact h9.rdB.1
        · rcases (show p = keyBlock key 92 ∨ p = sha (keyBlock key 54 ++ part) by simpa using hp) with rfl | rfl
          · rw [keyBlock_len]; decide
          · rw [sha_length]; decide
        rintro e w9 ⟨rfl, hb9⟩
        have B9 := veil hb9
        have b9 := hb9.size
        clear hb9
        rw [show sha [keyBlock key 92, sha (keyBlock key 54 ++ part)].flatten = hmac key part by unfold hmac; simp]
        have hbl2 : (bcells (hmac key part)).length = 32 := by rw [bcells_length]; exact sha_length _
        have h1c2 := bcells_one (hmac key part)
        have HBY2 : ∃ byy, byy = bcells (hmac key part) := ⟨_, rfl⟩
        obtain ⟨byy, hby2⟩ := HBY2
        rw [← hby2] at hbl2 h1c2 ⊢
        have HBY2 := veil hby2
        have RW9 := veil (((RW6.out.below B7.out).alloc (.cells #[.slice (some ⟨g7, o7, none⟩) 64 c7, .slice (some ⟨w5.heap.size, 0, none⟩) 32 32] 22)).below B9.out)
        have HT : w9.there w.heap.size 0 byy.toArray.size := fun j hj => ⟨by rw [Nat.zero_add, RW9.out.cell (i := j) (v := .int .u8 0) (by rw [List.size_toArray, hbl2] at hj; rw [List.getElem?_replicate, if_pos hj])]; rfl, RW9.out.frozen _⟩
        have HI : (Tryd.prog.info? 72).map (·.size) = some byy.toArray.size := by rw [List.size_toArray, hbl2]; kernel_rfl
        clear hby2)))
  have hset := setCells_row (w := w9) (B := w.heap.size) (T := 72) 0 byy 0 w9 (List.replicate 32 (.int .u8 0)) RW9.out (by rw [hbl2]; decide)
  simp only [Nat.add_zero] at hset
  have h10 := Row.whole (n := 32) hset.1 rfl hbl2
  have BZ : Below w.heap.size w (w9.setCells w.heap.size 0 byy) := ((((((But.of_below (S := fun _ => False) BF.out).trans (But.of_below B7.out)).alloc _).trans (But.of_below B9.out)).only hset.2 (.inr (Nat.le_refl _))).below (fun _ _ hf => hf))
  generalize w9.setCells w.heap.size 0 byy = w10 at h10 BZ
  have HBL := veil hbl2
  clear hset HT HI h1c2 hbl2
  go_wp2
  exact bodyPost_ret (results_cell_row rfl _ _ _ _ _ _ _ rfl h10 Tryd.underlying72 rfl (by rw [List.size_toArray, HBL.out]; kernel_rfl)) rfl ⟨by rw [HBY2.out], BZ⟩
end Go.Proofs.YtojffibjjicddaaDoor
