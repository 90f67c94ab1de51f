/- The reference's Seal writes what sealP says. -/
import Derived.Test.YtojffibjjicddaaDoorR5
namespace Go.Proofs.YtojffibjjicddaaDoor
open Go.RowKit
set_option linter.unusedVariables false
set_option linter.unusedSimpArgs false
set_option maxRecDepth 100000 in
set_option maxHeartbeats 4000000 in
theorem sealR_nat (w : World) (kv bv : Value) (key body : List UInt8) (d s : Nat) (hk : Bs w kv key) (hb : Bs w bv body) (hkl : key.length ≤ 1000000) (hbl : body.length ≤ 486) (hd : d ≤ 1) (hs : s ≤ 4611686018427387904) :
    Calls Tryd.prog 17 #[kv, .agg #[.int .i64 (d : Int), .int .i64 (s : Int), bv]] w fun e w' => ∃ A c, e = .returned (.slice A (body.length + 26) c) ∧ Own w' w.heap.size 5 1 (.slice A (body.length + 26) c) (body.length + 26) (bcells (sealP key d s body)) ∧ Below w.heap.size w w' := by
  obtain ⟨A, c, rfl, hc⟩ := hb.slice
  have HKL := veil hkl
  have HHL := veil (show (headP d s body).length = 10 + body.length by unfold headP; simp [be8_length]; omega)
  have HTL := veil (tag_length key (headP d s body))
  generalize hn : body.length = n at hb hc hbl HHL
  have HK := veil hk
  have HB := veil hb
  have HN := veil hn
  obtain ⟨i5, hi5, hz5, hs5, hb5⟩ := info_u8
  have I5 := veil (And.intro hi5 (And.intro hz5 (And.intro hs5 hb5)))
  clear hk hb hn hi5 hz5 hs5 hb5
  go_enter Tryd.func17, Tryd.ntmps17
  go_upto_region 1 with (fail)
  generalize hW1 : w.alloc _ = w1
  have RB := veil (show Row w1 w.heap.size 24 [.int .i64 (d : Int), .int .i64 (s : Int), .slice A n c] by rw [← hW1]; exact Row.newAt _ _ rfl)
  have B1 := veil (show Below w.heap.size w w1 by rw [← hW1]; exact (Below.refl _ _).alloc (Nat.le_refl _) _)
  have S1 := veil (show w1.heap.size = w.heap.size + 1 by rw [← hW1]; simp)
  clear hW1
  have x0 := RB.out.cell (i := 0) rfl
  go_upto_block 0 with (fail)
  generalize hW2 : w1.alloc _ = w2
  have HO2 := veil (show Own w2 (w.heap.size + 1) 5 1 (.slice (some ⟨w1.heap.size, 0, none⟩) 2 2) (2 + 0) (bcells (1 :: UInt8.ofNat d :: (be8 s).take 0)) from by
    rw [← hW2]
    have h1 := Own.made (n := 2) (cap := 2) (sz := 1) (Row.newAt (w := w1) 5 (bcells [1, UInt8.ofNat d]) rfl) (Nat.le_refl _) rfl (by omega) (w.heap.size + 1) (Nat.le_of_eq S1.out.symm)
    have e1 : (bcells [1, UInt8.ofNat d]).toArray = #[.int .u8 1, .int .u8 (d : Int)] := by
      have : (UInt8.ofNat d).toNat = d := by rw [UInt8.toNat_ofNat']; omega
      simp [bcells, this]
    rw [e1] at h1
    exact h1)
  have B2 := veil (show Below w.heap.size w w2 by rw [← hW2]; exact B1.out.alloc B1.out.size _)
  have RB2 := veil (show Row w2 w.heap.size 24 [.int .i64 (d : Int), .int .i64 (s : Int), .slice A n c] by rw [← hW2]; exact RB.out.alloc _)
  clear hW2 RB B1 x0
  go_wp2
  go_loopg [5, 6] 8 (fun gk v i wr => ∃ (m : Nat) (z : Int), gk + m = 8 ∧ z = 7 - m ∧ i = .int .i64 z ∧ Own wr (w.heap.size + 1) 5 1 v (2 + m) (bcells (1 :: UInt8.ofNat d :: (be8 s).take m)) ∧ Below w.heap.size w wr ∧ Row wr w.heap.size 24 [.int .i64 (d : Int), .int .i64 (s : Int), .slice A n c])
  case atStart => exact ⟨0, 7, by omega, by omega, rfl, HO2.out, B2.out, RB2.out⟩
  case round =>
    obtain ⟨m, z, hgm, hz, rfl, ho, hbl2, hrb⟩ := hrel
    obtain ⟨A6, c6, rfl⟩ := ho.slice
    have HO := veil ho
    have BB := veil hbl2
    have RB := veil hrb
    have x1 := hrb.cell (i := 1) rfl
    have x2 := hrb.cell (i := 2) rfl
    have lw := hrb.lt
    clear ho hbl2 hrb HO2 B2 RB2
    by_cases hm8 : m < 8
    · rcases (show m = 0 ∧ z = 7 ∨ m = 1 ∧ z = 6 ∨ m = 2 ∧ z = 5 ∨ m = 3 ∧ z = 4 ∨ m = 4 ∧ z = 3 ∨ m = 5 ∧ z = 2 ∨ m = 6 ∧ z = 1 ∨ m = 7 ∧ z = 0 by omega) with ⟨rfl, rfl⟩ | ⟨rfl, rfl⟩ | ⟨rfl, rfl⟩ | ⟨rfl, rfl⟩ | ⟨rfl, rfl⟩ | ⟨rfl, rfl⟩ | ⟨rfl, rfl⟩ | ⟨rfl, rfl⟩
      all_goals
        clear hz hm8
        go_wp2_with (first
          | (at_builtin
             go_must (
              with_reducible apply wpL_append (m := 1) (base := w.heap.size + 1)
              · rfl
              · rfl
              · exact Tryd.underlying22
              · exact I5.out.1
              · exact I5.out.2.1
              · exact I5.out.2.2.1
              · exact I5.out.2.2.2
              · rfl
              · exact HO.out.keep ((But.refl (fun _ => False) _).alloc _) (fun _ _ hf => hf)
              · first
                  | exact src_one (x := UInt8.ofNat (s >>> 56)) _ _ Tryd.underlying22 (low_byte _ _ (by rw [Nat.shiftRight_eq_div_pow]; omega) (by rw [Nat.shiftRight_eq_div_pow]; omega))
                  | exact src_one (x := UInt8.ofNat (s >>> 48)) _ _ Tryd.underlying22 (low_byte _ _ (by rw [Nat.shiftRight_eq_div_pow]; omega) (by rw [Nat.shiftRight_eq_div_pow]; omega))
                  | exact src_one (x := UInt8.ofNat (s >>> 40)) _ _ Tryd.underlying22 (low_byte _ _ (by rw [Nat.shiftRight_eq_div_pow]; omega) (by rw [Nat.shiftRight_eq_div_pow]; omega))
                  | exact src_one (x := UInt8.ofNat (s >>> 32)) _ _ Tryd.underlying22 (low_byte _ _ (by rw [Nat.shiftRight_eq_div_pow]; omega) (by rw [Nat.shiftRight_eq_div_pow]; omega))
                  | exact src_one (x := UInt8.ofNat (s >>> 24)) _ _ Tryd.underlying22 (low_byte _ _ (by rw [Nat.shiftRight_eq_div_pow]; omega) (by rw [Nat.shiftRight_eq_div_pow]; omega))
                  | exact src_one (x := UInt8.ofNat (s >>> 16)) _ _ Tryd.underlying22 (low_byte _ _ (by rw [Nat.shiftRight_eq_div_pow]; omega) (by rw [Nat.shiftRight_eq_div_pow]; omega))
                  | exact src_one (x := UInt8.ofNat (s >>> 8)) _ _ Tryd.underlying22 (low_byte _ _ (by rw [Nat.shiftRight_eq_div_pow]; omega) (by rw [Nat.shiftRight_eq_div_pow]; omega))
                  | exact src_one (x := UInt8.ofNat s) _ _ Tryd.underlying22 (low_byte _ _ (by omega) (by omega))
              · omega
              · omega
              · (simp; omega)
              intro v2 w2 ho2 hbu2 hbk2 _)))
        go_roundg (gk - 1)
        case measure => omega
        case rel =>
          first
              | refine ⟨1, 6, by omega, by omega, rfl, ?_, ?_, ?_⟩
              | refine ⟨2, 5, by omega, by omega, rfl, ?_, ?_, ?_⟩
              | refine ⟨3, 4, by omega, by omega, rfl, ?_, ?_, ?_⟩
              | refine ⟨4, 3, by omega, by omega, rfl, ?_, ?_, ?_⟩
              | refine ⟨5, 2, by omega, by omega, rfl, ?_, ?_, ?_⟩
              | refine ⟨6, 1, by omega, by omega, rfl, ?_, ?_, ?_⟩
              | refine ⟨7, 0, by omega, by omega, rfl, ?_, ?_, ?_⟩
              | refine ⟨8, -1, by omega, by omega, rfl, ?_, ?_, ?_⟩
          · rw [← bcells_append, List.cons_append, List.cons_append] at ho2
            exact ho2
          · exact ((But.of_below (S := fun _ => False) BB.out).alloc _ |>.own hbu2 (fun i hi => .inr (by have := (HO.out.lt i hi).1; omega))).below (fun _ _ hf => hf)
          · exact hbu2.row (RB.out.alloc _) (fun e => by have := (HO.out.lt _ e).1; omega)
    · obtain rfl : m = 8 := by omega
      obtain rfl : z = -1 := by omega
      go_wp2_with (first
        | (at_builtin
           go_must (
            first
            | (with_reducible apply wpL_append (m := body.length) (news := bcells body) (base := w.heap.size + 1)
               · rfl
               · rfl
               · exact Tryd.underlying22
               · exact I5.out.1
               · exact I5.out.2.1
               · exact I5.out.2.2.1
               · exact I5.out.2.2.2
               · rfl
               · exact HO.out
               · exact (HB.out.below BB.out).rd.src Tryd.underlying22
               · (rw [HN.out]; omega)
               · (rw [HN.out]; omega)
               · omega
               intro v2 w2 ho2 hbu2 hbk2 _
               rw [HN.out, ← bcells_append, List.cons_append, List.cons_append] at ho2
               obtain ⟨A7, c7, rfl⟩ := ho2.slice
               have O7 := veil (show Own w2 (w.heap.size + 1) 5 1 (.slice A7 (2 + 8 + n) c7) (2 + 8 + n) (bcells (headP d s body)) from ho2)
               have B7 := veil (((But.of_below (S := fun _ => False) BB.out).own hbu2 (fun i hi => .inr (by have := (HO.out.lt i hi).1; omega))).below (fun _ _ hf => hf))
               have b7 := B7.out.size
               have HTG := veil (tagR_any w2 kv _ key (headP d s body) (HK.out.below B7.out) O7.out.bs HKL.out (by rw [HHL.out]; omega))
               clear ho2 hbu2 hbk2)
            | (with_reducible apply wpL_append (m := 16) (news := bcells (tag key (headP d s body))) (base := w.heap.size)
               · rfl
               · rfl
               · exact Tryd.underlying22
               · exact I5.out.1
               · exact I5.out.2.1
               · exact I5.out.2.2.1
               · exact I5.out.2.2.2
               · rfl
               · exact O8.out.mono (Nat.le_succ _)
               · exact S8.out
               · omega
               · omega
               · omega
               intro v10 w10 ho10 hbu10 hbk10 _)))
        | (go_at_call 29
           go_must (
            with_reducible refine HTG.out.mono ?_
            rintro e w8 ⟨A8, c8, rfl, ho8, hb8⟩
            have O8 := veil (O7.out.below hb8)
            have B8 := veil (below_step B7.out b7 hb8)
            have b8 := B8.out.size
            have S8 := veil (show Src Tryd.prog 1 22 (.slice A8 16 c8) 16 (bcells (tag key (headP d s body))) w8 from by
              have h8 := ho8.rdB.1.src (P := Tryd.prog) Tryd.underlying22
              rw [HTL.out] at h8
              exact h8)
            clear ho8 hb8)))
      go_ret
      rw [← bcells_append, show 2 + 8 + n + 16 = n + 26 by omega] at ho10
      obtain ⟨A9, c9, rfl⟩ := ho10.slice
      exact ⟨A9, c9, rfl, ho10, (((But.of_below (S := fun _ => False) B8.out).own hbu10 (fun i hi => .inr (by have := (O8.out.lt i hi).1; omega))).below (fun _ _ hf => hf))⟩
theorem sealR_any (w : World) (kv bv : Value) (key body : List UInt8) (dir seq : Int) (hk : Bs w kv key) (hb : Bs w bv body) (hkl : key.length ≤ 1000000) (h : SealOk dir seq body.length) :
    Calls Tryd.prog 17 #[kv, .agg #[.int .i64 dir, .int .i64 seq, bv]] w fun e w' => ∃ A c, e = .returned (.slice A (body.length + 26) c) ∧ Own w' w.heap.size 5 1 (.slice A (body.length + 26) c) (body.length + 26) (bcells (sealP key dir.toNat seq.toNat body)) ∧ Below w.heap.size w w' := by
  obtain ⟨hs, hq, hl⟩ := h
  obtain ⟨d, rfl, hd⟩ : ∃ d : Nat, dir = (d : Int) ∧ d ≤ 1 := ⟨dir.toNat, by unfold sidedP at hs; simp at hs; omega, by unfold sidedP at hs; simp at hs; omega⟩
  obtain ⟨s, rfl, hs1⟩ : ∃ s : Nat, seq = (s : Int) ∧ s ≤ 4611686018427387904 := ⟨seq.toNat, by unfold numberedP at hq; simp at hq; omega, by unfold numberedP at hq; simp at hq; omega⟩
  exact sealR_nat w kv bv key body d s hk hb hkl hl hd hs1
end Go.Proofs.YtojffibjjicddaaDoor
