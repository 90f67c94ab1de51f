/- frame.Seal answers sealP or the errors 1 and 6, for keys and bodies up to 2^20 bytes. -/
import Derived.Test.YtojffibjjicddaaDoorFrame1
namespace Go.Proofs.YtojffibjjicddaaDoor
open Go.RowKit
def headP (d s : Nat) (body : List UInt8) : List UInt8 := 1 :: UInt8.ofNat d :: (be8 s ++ body)
def sealP (key : List UInt8) (d s : Nat) (body : List UInt8) : List UInt8 := headP d s body ++ tag key (headP d s body)
def errV (n : Int) : Value := .iface 61 (.int .i64 n)
def SealAns (e : Ending) (w w' : World) (key body : List UInt8) (dir seq : Int) : Prop :=
  if (sidedP dir && numberedP seq) = true then
    (if 486 < body.length then e = .returned (.tuple #[.slice none 0 0, errV 6])
     else ∃ r, e = .returned (.tuple #[r, .nilIface]) ∧ Own w' w.heap.size 5 1 r (body.length + 26) (bcells (sealP key dir.toNat seq.toNat body)))
  else e = .returned (.tuple #[.slice none 0 0, errV 1])
theorem be8_length (s : Nat) : (be8 s).length = 8 := rfl
set_option maxRecDepth 100000 in
set_option maxHeartbeats 2000000 in
theorem seal_any (w : World) (kv : Value) (key : List UInt8) (hk : RdB w kv key) (hkb : ∀ b, blockOf kv = some b → b < w.heap.size) (hkl : key.length ≤ 1048576)
    (dir seq : Int) (bv : Value) (body : List UInt8) (hb : RdB w bv body) (hbl : body.length ≤ 1048576) :
    Calls Tryd.prog 11 #[kv, .agg #[.int .i64 dir, .int .i64 seq, bv]] w fun e w' => SealAns e w w' key body dir seq ∧ Below w.heap.size w w' := by
  obtain ⟨A, c, rfl, hb0⟩ := hb
  have HK := veil hk
  have HKB := veil hkb
  have HKL := veil hkl
  have HB := veil (show RdB w (.slice A body.length c) body from ⟨A, c, rfl, hb0⟩)
  generalize hn : body.length = n at HB hbl
  have HN := veil hn
  clear hk hkb hkl hb0 hn
  go_enter Tryd.func11, Tryd.ntmps11
  go_upto_block 0 with (fail)
  cases hs : sidedP dir
  · go_wp2_with (first
      | (go_at_call 23
         go_must (
          refine (sided_any _ _).mono ?_
          rintro e w' ⟨rfl, rfl⟩)))
    go_ret2
    exact ⟨by unfold SealAns; rw [hs]; rfl, (Below.refl _ _).alloc (Nat.le_refl _) _⟩
  · cases hq : numberedP seq
    · go_wp2_with (first
        | (go_at_call 23
           go_must (
            refine (sided_any _ _).mono ?_
            rintro e w' ⟨rfl, rfl⟩))
        | (go_at_call 24
           go_must (
            refine (numbered_any _ _).mono ?_
            rintro e w' ⟨rfl, rfl⟩)))
      go_ret2
      exact ⟨by unfold SealAns; rw [hs, hq]; rfl, (Below.refl _ _).alloc (Nat.le_refl _) _⟩
    · by_cases hlt : 486 < n
      · go_wp2_with (first
          | (go_at_call 23
             go_must (
              refine (sided_any _ _).mono ?_
              rintro e w' ⟨rfl, rfl⟩))
          | (go_at_call 24
             go_must (
              refine (numbered_any _ _).mono ?_
              rintro e w' ⟨rfl, rfl⟩)))
        go_ret2
        exact ⟨by unfold SealAns; rw [hs, hq, HN.out, if_pos (show (true && true) = true from rfl), if_pos hlt]; rfl, (Below.refl _ _).alloc (Nat.le_refl _) _⟩
      · go_upto_region 5 with (first
          | (go_at_call 23
             go_must (
              refine (sided_any _ _).mono ?_
              rintro e w' ⟨rfl, rfl⟩))
          | (go_at_call 24
             go_must (
              refine (numbered_any _ _).mono ?_
              rintro e w' ⟨rfl, rfl⟩)))
        have HANS := veil (show ∀ e w', (∃ r, e = .returned (.tuple #[r, .nilIface]) ∧ Own w' w.heap.size 5 1 r (body.length + 26) (bcells (sealP key dir.toNat seq.toNat body))) → SealAns e w w' key body dir seq from fun e w' h => by unfold SealAns; rw [hs, hq, HN.out, if_pos (show (true && true) = true from rfl), if_neg hlt, ← HN.out]; exact h)
        obtain ⟨d, rfl, hd⟩ : ∃ d : Nat, dir = (d : Int) ∧ d ≤ 1 := ⟨dir.toNat, by unfold sidedP at hs; simp at hs; omega, by unfold sidedP at hs; simp at hs; omega⟩
        obtain ⟨s, rfl, hs1⟩ : ∃ s : Nat, seq = (s : Int) ∧ s ≤ 4611686018427387904 := ⟨seq.toNat, by unfold numberedP at hq; simp at hq; omega, by unfold numberedP at hq; simp at hq; omega⟩
        rw [Int.toNat_natCast, Int.toNat_natCast] at HANS
        clear hs hq
        generalize hW1 : w.alloc _ = w1
        have RB := veil (show Row w1 w.heap.size 24 [.int .i64 (d : Int), .int .i64 (s : Int), .slice A n c] by rw [← hW1]; exact Row.newAt _ _ rfl)
        have B1 := veil (show Below w.heap.size w w1 by rw [← hW1]; exact (Below.refl _ _).alloc (Nat.le_refl _) _)
        have hw1 : w1.heap.size = w.heap.size + 1 := by rw [← hW1]; simp
        clear hW1
        have x0 := RB.out.cell (i := 0) rfl
        obtain ⟨i5, hi5, hz5, hs5, hb5⟩ := info_u8
        have I5 := veil (And.intro hi5 (And.intro hz5 (And.intro hs5 hb5)))
        clear hi5 hz5 hs5 hb5
        go_upto_block 1 with (fail)
        generalize hW2 : w1.alloc _ = w2
        have HO2 := veil (show Own w2 (w.heap.size + 1) 5 1 (.slice (some ⟨w.heap.size + 1, 0, none⟩) 2 2) (2 + 0) (bcells (1 :: UInt8.ofNat d :: (be8 s).take 0)) from by
          rw [← hW2]
          have h1 := Own.made (n := 2) (cap := 2) (sz := 1) (Row.newAt (w := w1) 5 (bcells [1, UInt8.ofNat d]) hw1) (Nat.le_refl _) rfl (by omega) (w.heap.size + 1) (Nat.le_refl _)
          have e1 : (bcells [1, UInt8.ofNat d]).toArray = #[.int .u8 1, .int .u8 (d : Int)] := by
            have : (UInt8.ofNat d).toNat = d := by rw [UInt8.toNat_ofNat']; omega
            simp [bcells, this]
          rw [e1] at h1
          exact h1)
        have B2 := veil (show Below w.heap.size w w2 by rw [← hW2]; exact B1.out.alloc (by omega) _)
        have RB2 := veil (show Row w2 w.heap.size 24 [.int .i64 (d : Int), .int .i64 (s : Int), .slice A n c] by rw [← hW2]; exact RB.out.alloc _)
        clear hW2 RB B1 x0
        go_wp2
        generalize decide (486 < (n : Int)) = bb
        go_loopg [6, 31] 8 (fun gk v i wr => ∃ (m : Nat), gk + m = 8 ∧ i = .int .i64 m ∧ Own wr (w.heap.size + 1) 5 1 v (2 + m) (bcells (1 :: UInt8.ofNat d :: (be8 s).take m)) ∧ Below w.heap.size w wr ∧ Row wr w.heap.size 24 [.int .i64 (d : Int), .int .i64 (s : Int), .slice A n c])
        case atStart => exact ⟨0, by omega, rfl, HO2.out, B2.out, RB2.out⟩
        case round =>
          obtain ⟨m, hgm, rfl, ho, hbl2, hrb⟩ := hrel
          obtain ⟨A6, c6, rfl⟩ := ho.slice
          have HO := veil ho
          have BB := veil hbl2
          have RB := veil hrb
          have x1 := hrb.cell (i := 1) rfl
          have x2 := hrb.cell (i := 2) rfl
          have lw := hrb.lt
          clear ho hbl2 hrb HO2 B2 RB2
          by_cases hm8 : m < 8
          · rcases (show m = 0 ∨ m = 1 ∨ m = 2 ∨ m = 3 ∨ m = 4 ∨ m = 5 ∨ m = 6 ∨ m = 7 by omega) with rfl | rfl | rfl | rfl | rfl | rfl | rfl | rfl
            all_goals
              go_wp2_with (first
                | (at_builtin
                   with_reducible apply wpL_append (m := 1) (base := w.heap.size + 1)
                   go_must (
                    · rfl
                    · rfl
                    · exact Tryd.underlying22
                    · exact I5.out.1
                    · exact I5.out.2.1
                    · exact I5.out.2.2.1
                    · exact I5.out.2.2.2
                    · rfl
                    · exact HO.out.keep ((But.refl (fun _ => False) _).alloc _) (fun _ _ hf => hf)
                    · first
                    | exact src_one (x := UInt8.ofNat (s >>> 56)) _ _ Tryd.underlying22 (by rw [Nat.shiftRight_eq_div_pow, UInt8.toNat_ofNat']; omega)
                    | exact src_one (x := UInt8.ofNat (s >>> 48)) _ _ Tryd.underlying22 (by rw [Nat.shiftRight_eq_div_pow, UInt8.toNat_ofNat']; omega)
                    | exact src_one (x := UInt8.ofNat (s >>> 40)) _ _ Tryd.underlying22 (by rw [Nat.shiftRight_eq_div_pow, UInt8.toNat_ofNat']; omega)
                    | exact src_one (x := UInt8.ofNat (s >>> 32)) _ _ Tryd.underlying22 (by rw [Nat.shiftRight_eq_div_pow, UInt8.toNat_ofNat']; omega)
                    | exact src_one (x := UInt8.ofNat (s >>> 24)) _ _ Tryd.underlying22 (by rw [Nat.shiftRight_eq_div_pow, UInt8.toNat_ofNat']; omega)
                    | exact src_one (x := UInt8.ofNat (s >>> 16)) _ _ Tryd.underlying22 (by rw [Nat.shiftRight_eq_div_pow, UInt8.toNat_ofNat']; omega)
                    | exact src_one (x := UInt8.ofNat (s >>> 8)) _ _ Tryd.underlying22 (by rw [Nat.shiftRight_eq_div_pow, UInt8.toNat_ofNat']; omega)
                    | exact src_one (x := UInt8.ofNat s) _ _ Tryd.underlying22 (by rw [UInt8.toNat_ofNat']; omega)
                    · omega
                    · omega
                    · simp; omega
                    intro v2 w2 ho2 hbu2 hbk2 _)))
              go_roundg (gk - 1)
              case measure => omega
              case rel =>
                first
                  | refine ⟨1, by omega, rfl, ?_, ?_, ?_⟩
                  | refine ⟨2, by omega, rfl, ?_, ?_, ?_⟩
                  | refine ⟨3, by omega, rfl, ?_, ?_, ?_⟩
                  | refine ⟨4, by omega, rfl, ?_, ?_, ?_⟩
                  | refine ⟨5, by omega, rfl, ?_, ?_, ?_⟩
                  | refine ⟨6, by omega, rfl, ?_, ?_, ?_⟩
                  | refine ⟨7, by omega, rfl, ?_, ?_, ?_⟩
                  | refine ⟨8, by omega, rfl, ?_, ?_, ?_⟩
                · rw [← bcells_append, List.cons_append, List.cons_append] at ho2
                  exact ho2
                · exact ((But.of_below (S := fun _ => False) BB.out).alloc _ |>.own hbu2 (fun i hi => .inr (by have := (HO.out.lt i hi).1; omega))).below (fun _ _ hf => hf)
                · exact hbu2.row (RB.out.alloc _) (fun e => by have := (HO.out.lt _ e).1; omega)
          · obtain rfl : m = 8 := by omega
            go_upto_region 12 with (first
              | (at_builtin
                 with_reducible apply wpL_append (m := body.length) (news := bcells body) (base := w.heap.size + 1)
                 go_must (
                  · rfl
                  · rfl
                  · exact Tryd.underlying22
                  · exact I5.out.1
                  · exact I5.out.2.1
                  · exact I5.out.2.2.1
                  · exact I5.out.2.2.2
                  · rfl
                  · exact HO.out
                  · exact (HB.out.below BB.out).src Tryd.underlying22
                  · (rw [HN.out]; omega)
                  · (rw [HN.out]; omega)
                  · omega
                  intro v2 w2 ho2 hbu2 hbk2 _
                  rw [HN.out, ← bcells_append, List.cons_append, List.cons_append] at ho2
                  obtain ⟨g7, o7, c7, rfl, hg7, hg7'⟩ := ho2.one1 (by omega)
                  have O7 := veil (show Own w2 (w.heap.size + 1) 5 1 (.slice (some ⟨g7, o7, none⟩) (2 + 8 + n) c7) (2 + 8 + n) (bcells (headP d s body)) from ho2)
                  have B7 := veil (((But.of_below (S := fun _ => False) BB.out).own hbu2 (fun i hi => .inr (by have := (HO.out.lt i hi).1; omega))).below (fun _ _ hf => hf))
                  have b7 := B7.out.size
                  clear ho2 hbu2 hbk2)))
            have HHL := veil (show (headP d s body).length = 10 + n by unfold headP; simp [be8_length]; rw [HN.out]; omega)
            go_upto_region 13 with (first
              | (go_at_call 25
                 go_must (
                  refine (tag_any _ kv key ((HK.out.below B7.out).below ((Below.refl _ _).alloc (Nat.le_refl _) _)) (fun b hb => by have := HKB.out b hb; simp; omega) HKL.out w2.heap.size 0 1 (.slice (some ⟨g7, o7, none⟩) (2 + 8 + n) c7) (headP d s body) ((Row.newAt (w := w2) 22 [.slice (some ⟨g7, o7, none⟩) (2 + 8 + n) c7] rfl).cell1) (O7.out.rdB.1.below ((Below.refl _ _).alloc (Nat.le_refl _) _)) (fun b hb => by have := (Option.some.inj hb : g7 = b); simp; omega) (by rw [HHL.out]; omega)).mono ?_
                  rintro e w8 ⟨rfl, hb8⟩
                  have B8 := veil (below_step (Below.refl w2.heap.size w2) (Nat.le_refl _) (((Below.refl w2.heap.size w2).alloc (Nat.le_refl _) (.cells #[.slice (some ⟨g7, o7, none⟩) (2 + 8 + n) c7] 22)).trans (hb8.mono (by simp))))
                  have b8 := B8.out.size
                  clear hb8
                  have htl := veil (show (tag key (headP d s body)).length = 16 from tag_length _ _)
                  generalize htg : tag key (headP d s body) = tg at htl
                  have HTG := veil htg
                  have h1t := veil (bcells_one tg)
                  have hbt := veil (show (bcells tg).length = 16 by rw [bcells_length, htl.out])
                  clear htg))
              | (with_reducible apply wpL_store (vs := bcells tg)
                 go_must (
                  · rfl
                  · rfl
                  · exact Row.newAt (w := w8) 62 (List.replicate 16 (.int .u8 0)) rfl
                  · rw [hbt.out]; decide
                  · exact h1t.out
                  · rw [hbt.out]; kernel_rfl
                  intro w9 hr9 ho9)))
            have h9 := hr9.whole (n := 16) rfl hbt.out
            have O9 := veil (((O7.out.below B8.out).keep ((But.refl (fun _ => False) w8).alloc _) (fun _ _ hf => hf)).keep ((But.refl (fun i => i = w8.heap.size) _).only ho9 (.inl rfl)) (fun b hb e => by have := (Option.some.inj hb : g7 = b); omega))
            have S9 := veil (show Src Tryd.prog 1 22 (.slice (some ⟨w8.heap.size, 0, none⟩) 16 16) 16 (bcells tg) w9 from by
              have h7 := Own.made (n := 16) (cap := 16) (sz := 1) h9 (Nat.le_refl _) (by rw [hbt.out]) (by omega) 0 (Nat.zero_le _)
              rw [List.take_of_length_le (by rw [hbt.out]; decide)] at h7
              have h8 := h7.rdB.1.src (P := Tryd.prog) Tryd.underlying22
              rw [htl.out] at h8
              exact h8)
            have B9 := veil (show Below w.heap.size w w9 from ((((But.of_below (S := fun _ => False) B7.out).trans (But.of_below B8.out)).alloc _).only ho9 (.inr (by omega))).below (fun _ _ hf => hf))
            have b9 := B9.out.size
            have b10 : w9.heap.size = w8.heap.size + 1 := by rw [ho9.size]; simp
            go_wp2_with (first
              | (at_builtin
                 with_reducible apply wpL_append (m := 16) (news := bcells tg) (base := w.heap.size + 1)
                 go_must (
                  · rfl
                  · rfl
                  · exact Tryd.underlying22
                  · exact I5.out.1
                  · exact I5.out.2.1
                  · exact I5.out.2.2.1
                  · exact I5.out.2.2.2
                  · rfl
                  · exact O9.out
                  · exact S9.out
                  · omega
                  · omega
                  · omega
                  intro v2 w10 ho10 hbu10 hbk10 _)))
            go_ret2
            refine ⟨HANS.out _ _ ⟨_, rfl, ?_⟩, ((But.of_below (S := fun _ => False) B9.out).own hbu10 (fun i hi => .inr (by have := (O9.out.lt i hi).1; omega))).below (fun _ _ hf => hf)⟩
            have e1 : bcells (headP d s body) ++ bcells tg = bcells (sealP key d s body) := by rw [← bcells_append, ← HTG.out]; rfl
            rw [e1, show 2 + 8 + n + 16 = body.length + 26 by rw [HN.out]; omega] at ho10
            exact ho10.mono (by omega)
end Go.Proofs.YtojffibjjicddaaDoor
