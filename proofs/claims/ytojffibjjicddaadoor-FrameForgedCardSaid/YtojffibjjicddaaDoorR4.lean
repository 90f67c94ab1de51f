/- The reference's Code is hmac, its Tag is tag. -/
import Derived.Test.YtojffibjjicddaaDoorR3
namespace Go.Proofs.YtojffibjjicddaaDoor
open Go.RowKit
set_option linter.unusedVariables false
set_option linter.unusedSimpArgs false
def keyK (key : List UInt8) : List UInt8 := if 64 < key.length then sha key else key
def keyP (key : List UInt8) : List UInt8 := keyK key ++ List.replicate (64 - (keyK key).length) 0
theorem Own.raise {w : World} {base base' : Nat} {E : TypeId} {sz n : Nat} {v : Value} {cs : List Value} (h : Own w base E sz v n cs) (hb : ∀ b, blockOf v = some b → base' ≤ b) : Own w base' E sz v n cs := by
  refine ⟨h.1, ?_⟩
  rcases h.2 with h1 | ⟨g, off, cap, cur, rfl, h2, h3⟩
  · exact .inl h1
  · exact .inr ⟨g, off, cap, cur, rfl, hb g rfl, h3⟩
theorem Own.rdB' {w : World} {base : Nat} {E : TypeId} {v : Value} {n : Nat} {cs sb : List Value} {xs : List UInt8} (h : Own w base E 1 v n cs) (he : bcells xs = sb) (hx : xs.length = n) (hl : sb.length = n) (hc : cs = sb := by exact List.take_of_length_le (by simp_all)) : RdB w v xs := by
  subst hc
  rw [← he] at h
  exact h.rdB.1
theorem keyK_len (key : List UInt8) : (keyK key).length ≤ 64 := by
  unfold keyK
  split
  · rw [sha_length]; decide
  · omega
theorem keyP_len (key : List UInt8) : (keyP key).length = 64 := by
  unfold keyP
  have := keyK_len key
  simp
  omega
theorem keyP_block (key : List UInt8) (y : UInt8) : keyBlock key y = (keyP key).map (· ^^^ y) := rfl
theorem map_take_succ (l : List UInt8) (i : Nat) (h : i < l.length) (y : UInt8) : (l.take (i + 1)).map (· ^^^ y) = (l.take i).map (· ^^^ y) ++ [l.getD i 0 ^^^ y] := by
  rw [List.take_succ_eq_append_getElem h, List.map_append]
  simp [List.getD_eq_getElem?_getD, h]
set_option maxRecDepth 100000 in
set_option maxHeartbeats 4000000 in
theorem codeR_any (w : World) (kv tv : Value) (key text : List UInt8) (hk : Bs w kv key) (ht : Bs w tv text) (hkl : key.length ≤ 1000000) (htl : text.length ≤ 1000000) :
    Calls Tryd.prog 36 #[kv, tv] w fun e w' => e = .returned (.agg (bcells (hmac key text)).toArray) ∧ Below w.heap.size w w' := by
  obtain ⟨A, c, rfl, hc⟩ := hk.slice
  obtain ⟨T, tc, rfl, htc⟩ := ht.slice
  have HKK := veil (keyK_len key)
  have HKP := veil (keyP_len key)
  generalize hn : key.length = n at hk hkl hc
  generalize htn : text.length = tn at ht htl htc
  have HK := veil hk
  have HT := veil ht
  have HN := veil hn
  have HTN := veil htn
  obtain ⟨i5, hi5, hz5, hs5, hb5⟩ := info_u8
  have I5 := veil (And.intro hi5 (And.intro hz5 (And.intro hs5 hb5)))
  clear hk ht hn htn hi5 hz5 hs5 hb5
  go_enter Tryd.func36, Tryd.ntmps36
  go_upto_region 1 with (fail)
  have R1 := veil (show Row (w.alloc (.cells (List.replicate 32 (Value.int .u8 0)).toArray 72)) w.heap.size 72 (List.replicate 32 (.int .u8 0)) from Row.newAt _ _ rfl)
  have B1 := veil (show Below w.heap.size w (w.alloc (.cells (List.replicate 32 (Value.int .u8 0)).toArray 72)) from (Below.refl _ _).alloc (Nat.le_refl _) _)
  change Code.wp _ _ _ _ (w.alloc (.cells (List.replicate 32 (Value.int .u8 0)).toArray 72))
  have s1 : (w.alloc (.cells (List.replicate 32 (Value.int .u8 0)).toArray 72)).heap.size = w.heap.size + 1 := by simp
  generalize w.alloc (.cells (List.replicate 32 (Value.int .u8 0)).toArray 72) = w1 at R1 B1 s1 ⊢
  have S1 := veil s1
  have s1' : w.heap.size + 1 ≤ w1.heap.size := by omega
  clear s1
  go_upto_region 2 with (first
    | (at_builtin
       go_must (
        with_reducible apply wpL_append (m := key.length) (news := bcells key) (base := w.heap.size)
        · rfl
        · rfl
        · exact Tryd.underlying22
        · exact I5.out.1
        · exact I5.out.2.1
        · exact I5.out.2.2.1
        · exact I5.out.2.2.2
        · rfl
        · exact Own.made (cs := []) (Row.newAt (w := w1) 5 [] rfl) (Nat.le_refl 0) rfl (Nat.zero_le _) w.heap.size (by omega)
        · exact ((HK.out.below B1.out).alloc _).rd.src Tryd.underlying22
        · (rw [HN.out]; omega)
        · (rw [HN.out]; omega)
        · (simp; omega)
        intro v2 w2 ho2 hbu2 hbk2 _
        rw [Nat.zero_add, HN.out] at ho2
        replace ho2 : Own w2 w.heap.size 5 1 v2 n (bcells key) := ho2
        obtain ⟨A2, c2, rfl⟩ := ho2.slice
        have HB2 := veil ((((But.refl (fun _ => False) w1).alloc _).own hbu2 (fun i hi => .inr (by have h7 := Option.some.inj (show some w1.heap.size = some i from hi); omega))).below (fun _ _ hf => hf))
        have O2 := veil ho2
        have NB2 := veil (show ∀ b, blockOf (.slice A2 n c2) = some b → w1.heap.size ≤ b from fun b hb => by rcases hbk2 b hb with h7 | h7; have h8 := Option.some.inj (show some w1.heap.size = some b from h7); omega; simp at h7; omega)
        have R2 := veil (R1.out.below HB2.out)
        have B2 := veil (below_step B1.out B1.out.size HB2.out)
        have b2 := HB2.out.size
        clear ho2 hbu2 hbk2))
    | fail)
  by_cases h64 : 64 < n
  · have HKE := veil (show keyK key = sha key by unfold keyK; rw [if_pos (by rw [HN.out]; exact h64)])
    have HOF := ofR_any w2 _ key (HK.out.below B2.out) (by rw [HN.out]; omega)
    have sl := veil (show (bcells (sha key)).length = 32 by rw [bcells_length]; exact sha_length _)
    have so := veil (bcells_one (sha key))
    generalize hsb : bcells (sha key) = sb at HOF sl so
    have HSB := veil hsb
    have HOF := veil HOF
    clear hsb
    go_upto_block 0 with (first
      | (go_at_call 45
         go_must (
          with_reducible refine HOF.out.mono ?_
          rintro e w3 ⟨rfl, hb3⟩
          have HB3 := veil hb3
          have b3 := hb3.size
          clear hb3))
      | (with_reducible apply wpL_store (vs := sb)
         go_must (
          · rfl
          · rfl
          · exact Row.newAt (w := w3) 72 (List.replicate 32 (.int .u8 0)) rfl
          · rw [sl.out]; exact Nat.le_refl 32
          · exact so.out
          · rw [sl.out]; kernel_rfl
          intro w4 hr4 ho4
          have RS4 := veil (hr4.whole (n := 32) rfl sl.out)
          have S4 := veil (show Src Tryd.prog 1 22 (.slice (some ⟨w3.heap.size, 0, none⟩) 32 32) 32 sb (w4.alloc (.cells #[] 5)) from by
            have h8 := ((Own.made (n := 32) (cap := 32) (sz := 1) (RS4.out.alloc (.cells #[] 5)) (Nat.le_refl _) (by rw [sl.out]) (by omega) 0 (Nat.zero_le _)).rdB' HSB.out (sha_length _) sl.out (List.take_of_length_le (by rw [sl.out]; exact Nat.le_refl 32))).src (P := Tryd.prog) Tryd.underlying22
            rw [sha_length, HSB.out] at h8
            exact h8)
          have R4 := veil (ho4.row ((R2.out.below HB3.out).alloc _) (by omega))
          have hs4 : w4.heap.size = w3.heap.size + 1 := by rw [ho4.size]; simp
          have b4 : w3.heap.size + 1 ≤ w4.heap.size := by omega
          have B4 := veil ((((But.of_below (S := fun _ => False) (below_step B2.out B2.out.size HB3.out)).alloc _).only ho4 (.inr (by have := B2.out.size; omega))).below (fun _ _ hf => hf))
          clear hs4 hr4 ho4))
      | (at_builtin
         go_must (
          with_reducible apply wpL_append (m := 32) (news := sb) (base := w.heap.size)
          · rfl
          · rfl
          · exact Tryd.underlying22
          · exact I5.out.1
          · exact I5.out.2.1
          · exact I5.out.2.2.1
          · exact I5.out.2.2.2
          · rfl
          · exact Own.made (cs := []) (Row.newAt (w := w4) 5 [] rfl) (Nat.le_refl 0) rfl (Nat.zero_le _) w.heap.size (by have := B2.out.size; omega)
          · exact S4.out
          · omega
          · omega
          · (simp; have := B2.out.size; omega)
          intro v5 w5 ho5 hbu5 hbk5 _
          rw [Nat.zero_add] at ho5
          replace ho5 : Own w5 w.heap.size 5 1 v5 32 sb := ho5
          obtain ⟨A5, c5, rfl⟩ := ho5.slice
          have HB5 := veil ((((But.refl (fun _ => False) w4).alloc _).own hbu5 (fun i hi => .inr (by have h7 := Option.some.inj (show some w4.heap.size = some i from hi); omega))).below (fun _ _ hf => hf))
          have O5 := veil ho5
          have NB5 := veil (show ∀ b, blockOf (.slice A5 32 c5) = some b → w1.heap.size ≤ b from fun b hb => by rcases hbk5 b hb with h7 | h7; have h8 := Option.some.inj (show some w4.heap.size = some b from h7); omega; simp at h7; omega)
          have R5 := veil (R4.out.below HB5.out)
          have B5 := veil (below_step B4.out B4.out.size HB5.out)
          clear ho5 hbu5 hbk5))
      | fail)
    have OK5 := veil (show Own w5 w1.heap.size 5 1 (.slice A5 32 c5) 32 (bcells (keyK key)) by rw [HKE.out, HSB.out]; exact O5.out.raise NB5.out)
    clear O5 NB5 RS4 R4 B4 HB3 HB5 HOF so sl
    have HKL := veil (show (keyK key).length = 32 by rw [HKE.out]; exact sha_length _)
    have hL : 32 ≤ 64 := by have h7 := HKL.out; have h8 := HKK.out; omega
    clear h64
    go_wp2
    go_loopg [5] (64 - 32) (fun gk v wr => ∃ (j : Nat), gk + j = 64 - 32 ∧ Own wr w1.heap.size 5 1 v (32 + j) (bcells (keyK key ++ List.replicate j 0)) ∧ Row wr w.heap.size 72 (List.replicate 32 (.int .u8 0)) ∧ Below w.heap.size w wr)
    case atStart => exact ⟨0, by omega, by rw [List.replicate_zero, List.append_nil]; exact OK5.out, R5.out, B5.out⟩
    case round =>
      obtain ⟨j, hgj, ho, hr, hbl⟩ := hrel
      obtain ⟨A6, c6, rfl⟩ := ho.slice
      have HO := veil ho
      have HR := veil hr
      have HBL := veil hbl
      have bl := hbl.size
      have bw1 : w1.heap.size ≤ wr.heap.size := by have := hr.lt; have := S1.out; omega
      clear ho hr hbl
      by_cases hlt : 32 + j < 64
      · go_wp2_with (first
          | (at_builtin
             go_must (
              with_reducible apply wpL_append (m := 1) (news := bcells [0]) (base := w1.heap.size)
              · rfl
              · rfl
              · exact Tryd.underlying22
              · exact I5.out.1
              · exact I5.out.2.1
              · exact I5.out.2.2.1
              · exact I5.out.2.2.2
              · rfl
              · exact HO.out.keep ((But.refl (fun _ => False) _).alloc _) (fun _ _ hf => hf)
              · exact src_one (x := 0) _ _ Tryd.underlying22 rfl
              · omega
              · omega
              · (simp; omega)
              intro v6 w6 ho6 hbu6 hbk6 _)))
        go_roundg (gk - 1)
        case measure => omega
        case rel =>
          refine ⟨j + 1, by omega, ?_, ?_, ?_⟩
          · rw [← bcells_append, List.append_assoc, ← List.replicate_succ'] at ho6
            exact ho6
          · exact hbu6.row (HR.out.alloc _) (fun e => by have := (HO.out.lt _ e).1; have := S1.out; omega)
          · exact (((But.of_below (S := fun _ => False) HBL.out).alloc _).own hbu6 (fun i hi => .inr (by have := (HO.out.lt i hi).1; have := S1.out; omega))).below (fun _ _ hf => hf)
      · have hj : 64 ≤ 32 + j := by omega
        have hj2 : 32 + j ≤ 64 := by omega
        have HKS := veil (show keyK key ++ List.replicate j 0 = keyP key by unfold keyP; rw [HKL.out, show j = 64 - 32 by omega])
        have O6 := veil (show Own wr w1.heap.size 5 1 (.slice A6 (32 + j) c6) (32 + j) (bcells (keyP key)) by rw [← HKS.out]; exact HO.out)
        obtain ⟨g6, o6, hA6, hg6, hc6⟩ := O6.out.cell (by omega)
        subst hA6
        have HC6 := veil hc6
        have hlt6 := (O6.out.lt g6 rfl).2
        clear hc6 HO bw1
        generalize wr = wL at HR HBL O6 HC6 hlt6 bl ⊢
        go_wp2
        go_loopg [7, 8, 9] 64 (fun gk v7 v8 i wr => ∃ (m : Nat), gk + m = 64 ∧ i = .int .i64 m ∧ Own wr wL.heap.size 5 1 v7 m (bcells (((keyP key).take m).map (· ^^^ 54))) ∧ Own wr wL.heap.size 5 1 v8 m (bcells (((keyP key).take m).map (· ^^^ 92))) ∧ (∀ b, blockOf v7 = some b → blockOf v8 ≠ some b) ∧ Below wL.heap.size wL wr)
        case atStart => exact ⟨0, by omega, rfl, Own.nil _ _ _ _, Own.nil _ _ _ _, fun b h => (by cases h), Below.refl _ _⟩
        case round =>
          obtain ⟨m, hgm, rfl, ho7, ho8, hdi, hbk⟩ := hrel
          obtain ⟨A7, c7, rfl⟩ := ho7.slice
          obtain ⟨A8, c8, rfl⟩ := ho8.slice
          have HO7 := veil ho7
          have HO8 := veil ho8
          have HDI := veil hdi
          have HBK := veil hbk
          have bk := hbk.size
          clear ho7 ho8 hdi hbk
          by_cases hm : m < 64
          · have hcm := (HC6.out m _ (bcells_at (by rw [HKP.out]; exact hm))).1
            have X54 := map_take_succ (keyP key) m (by rw [HKP.out]; exact hm) 54
            have X92 := map_take_succ (keyP key) m (by rw [HKP.out]; exact hm) 92
            generalize (keyP key).getD m 0 = x at hcm X54 X92
            have HX54 := veil X54.symm
            have HX92 := veil X92.symm
            have cm : wr.cell? ⟨g6, o6 + m, none⟩ = some (.int .u8 (x.toNat : Int)) := (But.of_below (S := fun _ => False) HBK.out).cell hcm (fun h => h)
            clear X54 X92 hcm
            go_wp2_with (first
              | (at_builtin
                 go_must (
                  first
                  | (with_reducible apply wpL_append (m := 1) (base := wL.heap.size)
                     · rfl
                     · rfl
                     · exact Tryd.underlying22
                     · exact I5.out.1
                     · exact I5.out.2.1
                     · exact I5.out.2.2.1
                     · exact I5.out.2.2.2
                     · rfl
                     · exact HO7.out.keep ((But.refl (fun _ => False) _).alloc _) (fun _ _ hf => hf)
                     · exact src_one (x := x ^^^ 54) _ _ Tryd.underlying22 (xor_byte x 54)
                     · omega
                     · omega
                     · (simp; omega)
                     intro v7 w7 ho7 hbu7 hbk7 _
                     rw [← bcells_append, HX54.out] at ho7
                     have O7 := veil ho7
                     have HBU7 := veil (((But.refl (fun b => blockOf (.slice A7 m c7) = some b) wr).alloc _).own hbu7 (fun i hi => .inl hi))
                     have HBK7 := veil (show ∀ b, blockOf v7 = some b → blockOf (.slice A7 m c7) = some b ∨ wr.heap.size ≤ b from fun b hb => (hbk7 b hb).imp id (fun h => by simp at h; omega))
                     have b7 := HBU7.out.size
                     have cm7 : w7.cell? ⟨g6, o6 + m, none⟩ = some (.int .u8 (x.toNat : Int)) := HBU7.out.cell cm (fun e => by have := (HO7.out.lt g6 e).1; omega)
                     have O8 := veil (HO8.out.keep HBU7.out (fun b h8 h7 => HDI.out b h7 h8))
                     clear ho7 hbu7 hbk7)
                  | (with_reducible apply wpL_append (m := 1) (base := wL.heap.size)
                     · rfl
                     · rfl
                     · exact Tryd.underlying22
                     · exact I5.out.1
                     · exact I5.out.2.1
                     · exact I5.out.2.2.1
                     · exact I5.out.2.2.2
                     · rfl
                     · exact O8.out.keep ((But.refl (fun _ => False) _).alloc _) (fun _ _ hf => hf)
                     · exact src_one (x := x ^^^ 92) _ _ Tryd.underlying22 (xor_byte x 92)
                     · omega
                     · omega
                     · (simp; omega)
                     intro v8 w8 ho8 hbu8 hbk8 _
                     rw [← bcells_append, HX92.out] at ho8
                     have HBU8 := veil (((But.refl (fun b => blockOf (.slice A8 m c8) = some b) w7).alloc _).own hbu8 (fun i hi => .inl hi))
                     have HBK8 := veil (show ∀ b, blockOf v8 = some b → blockOf (.slice A8 m c8) = some b ∨ w7.heap.size ≤ b from fun b hb => (hbk8 b hb).imp id (fun h => by simp at h; omega))
                     have D8 := veil (show ∀ b, blockOf v7 = some b → blockOf (.slice A8 m c8) ≠ some b from fun b h7 h8 => by
                       rcases HBK7.out b h7 with h | h
                       · exact HDI.out b h h8
                       · have := (HO8.out.lt b h8).2; omega)))))
            go_roundg (gk - 1)
            case measure => omega
            case rel =>
              refine ⟨m + 1, by omega, by go_num, ?_, ho8, ?_, ?_⟩
              · exact O7.out.keep HBU8.out (fun b h7 h8 => D8.out b h7 h8)
              · intro b h7 h8
                rcases HBK8.out b h8 with h | h
                · exact D8.out b h7 h
                · have := (O7.out.lt b h7).2; omega
              · exact (((But.of_below (S := fun _ => False) HBK.out).own HBU7.out (fun i hi => .inr (HO7.out.lt i hi).1)).own HBU8.out (fun i hi => .inr (HO8.out.lt i hi).1)).below (fun _ _ hf => hf)
          · obtain rfl : m = 64 := by omega
            have e54 : ((keyP key).take 64).map (· ^^^ 54) = keyBlock key 54 := by rw [List.take_of_length_le (by rw [HKP.out]; exact Nat.le_refl 64)]; rfl
            have e92 : ((keyP key).take 64).map (· ^^^ 92) = keyBlock key 92 := by rw [List.take_of_length_le (by rw [HKP.out]; exact Nat.le_refl 64)]; rfl
            have H7 := veil (show Own wr wL.heap.size 5 1 (.slice A7 64 c7) 64 (bcells (keyBlock key 54)) by rw [← e54]; exact HO7.out)
            have H8 := veil (show Own wr wL.heap.size 5 1 (.slice A8 64 c8) 64 (bcells (keyBlock key 92)) by rw [← e92]; exact HO8.out)
            have HRk := veil (HR.out.below HBK.out)
            have HBk := veil (below_step HBL.out bl HBK.out)
            have HTk := veil (HT.out.below HBk.out)
            have L54 := veil (keyBlock_len key 54)
            have L92 := veil (keyBlock_len key 92)
            have HHM := veil (show hmac key text = sha (keyBlock key 92 ++ sha (keyBlock key 54 ++ text)) from rfl)
            clear e54 e92 HO7 HO8 hm hgm
            generalize keyBlock key 54 = k54 at H7 L54 HHM
            generalize keyBlock key 92 = k92 at H8 L92 HHM
            have s1l := veil (show (sha (k54 ++ text)).length = 32 from sha_length _)
            have HSB2 := veil (show bcells (sha (k54 ++ text)) = bcells (sha (k54 ++ text)) from rfl)
            have sbl := veil (show (bcells (sha (k54 ++ text))).length = 32 by rw [bcells_length]; exact sha_length _)
            have sb1 := veil (bcells_one (sha (k54 ++ text)))
            have fbl := veil (show (bcells (sha (k92 ++ sha (k54 ++ text)))).length = 32 by rw [bcells_length]; exact sha_length _)
            have fb1 := veil (bcells_one (sha (k92 ++ sha (k54 ++ text))))
            have hbw : w.heap.size + 1 ≤ wL.heap.size := by have := S1.out; omega
            generalize hs1 : sha (k54 ++ text) = s1 at s1l HSB2 sbl sb1 fbl fb1 HHM
            generalize hsb : bcells s1 = sb at HSB2 sbl sb1
            have HSB3 := veil hsb
            have HS1 := veil hs1
            clear HSB2
            have HSB2 := HSB3
            generalize hfb : bcells (sha (k92 ++ s1)) = fb at fbl fb1
            have HFB := veil hfb
            clear hs1 hsb hfb
            go_wp2_with (first
              | (at_builtin
                 go_must (
                  first
                  | (with_reducible apply wpL_append (m := text.length) (news := bcells text) (base := wL.heap.size)
                     · rfl
                     · rfl
                     · exact Tryd.underlying22
                     · exact I5.out.1
                     · exact I5.out.2.1
                     · exact I5.out.2.2.1
                     · exact I5.out.2.2.2
                     · rfl
                     · exact H7.out
                     · exact HTk.out.rd.src Tryd.underlying22
                     · rw [HTN.out]; omega
                     · rw [HTN.out]; omega
                     · (omega)
                     intro v9 w9 ho9 hbu9 hbk9 _
                     rw [← bcells_append, HTN.out] at ho9
                     obtain ⟨A9, c9, rfl⟩ := ho9.slice
                     have HB9 := veil (hbu9.own (But.refl (fun _ => False) w9) (fun _ hf => hf.elim))
                     have HF9 := veil (ofR_any w9 _ (k54 ++ text) ho9.bs (by simp [L54.out, HTN.out]; omega))
                     have R9 := veil (HB9.out.row HRk.out (fun e => by have := (H7.out.lt _ e).1; omega))
                     have H89 := veil (H8.out.keep HB9.out (fun b h8 h7 => HDI.out b h7 h8))
                     have B9 := veil (((But.of_below (S := fun _ => False) HBk.out).own HB9.out (fun i hi => .inr (by have := (H7.out.lt i hi).1; omega))).below (fun _ _ hf => hf))
                     have b9 := B9.out.size
                     have b9r := HB9.out.size
                     clear ho9 hbu9 hbk9)
                  | (with_reducible apply wpL_append (m := 32) (news := sb) (base := wL.heap.size)
                     · rfl
                     · rfl
                     · exact Tryd.underlying22
                     · exact I5.out.1
                     · exact I5.out.2.1
                     · exact I5.out.2.2.1
                     · exact I5.out.2.2.2
                     · rfl
                     · exact H8a.out
                     · exact S12.out
                     · omega
                     · omega
                     · (omega)
                     intro v13 w13 ho13 hbu13 hbk13 _
                     rw [← HSB2.out, ← bcells_append] at ho13
                     obtain ⟨A13, c13, rfl⟩ := ho13.slice
                     have HF13 := veil (ofR_any w13 _ (k92 ++ s1) ho13.bs (by simp [L92.out, s1l.out]))
                     have R13 := veil (hbu13.row R12.out (fun e => by have := (H8a.out.lt _ e).1; omega))
                     have B13 := veil (((But.of_below (S := fun _ => False) B12.out).own hbu13 (fun i hi => .inr (by have := (H8a.out.lt i hi).1; omega))).below (fun _ _ hf => hf))
                     clear ho13 hbu13 hbk13)))
              | (go_at_call 45
                 go_must (
                  first
                  | (with_reducible refine HF9.out.mono ?_
                     rw [HS1.out, HSB3.out]
                     rintro e w10 ⟨rfl, hb10⟩
                     have HB10 := veil hb10
                     have b10 := hb10.size
                     clear hb10)
                  | (with_reducible refine HF13.out.mono ?_
                     rw [HFB.out]
                     rintro e w14 ⟨rfl, hb14⟩
                     have HB14 := veil hb14
                     clear hb14)))
              | (with_reducible apply wpL_store (vs := sb)
                 · rfl
                 · rfl
                 · exact Row.newAt (w := w10) 72 (List.replicate 32 (.int .u8 0)) rfl
                 go_must (
                  · rw [sbl.out]; exact Nat.le_refl 32
                  · exact sb1.out
                  · rw [sbl.out]; kernel_rfl
                  intro w12 hr12 ho12
                  have RS4 := veil (hr12.whole (n := 32) rfl sbl.out)
                  have S12 := veil (show Src Tryd.prog 1 22 (.slice (some ⟨w10.heap.size, 0, none⟩) 32 32) 32 sb w12 from by
                    have h8 := ((Own.made (n := 32) (cap := 32) (sz := 1) RS4.out (Nat.le_refl _) (by rw [sbl.out]) (by omega) 0 (Nat.zero_le _)).rdB' HSB3.out s1l.out sbl.out (List.take_of_length_le (by rw [sbl.out]; exact Nat.le_refl 32))).src (P := Tryd.prog) Tryd.underlying22
                    rw [s1l.out, HSB3.out] at h8
                    exact h8)
                  have R12 := veil (ho12.row ((R9.out.below HB10.out).alloc _) (by omega))
                  have H8a := veil (((H89.out.below HB10.out).keep ((But.refl (fun _ => False) _).alloc _) (fun _ _ hf => hf)).keep ((But.refl (fun i => i = w10.heap.size) _).only ho12 (.inl rfl)) (fun b hb e => by have := (H89.out.lt b hb).2; omega))
                  have hs12 : w12.heap.size = w10.heap.size + 1 := by rw [ho12.size]; simp
                  have b12 : w10.heap.size + 1 ≤ w12.heap.size := by omega
                  have B12 := veil ((((But.of_below (S := fun _ => False) (below_step B9.out B9.out.size HB10.out)).alloc _).only ho12 (.inr (by omega))).below (fun _ _ hf => hf))
                  clear hs12 hr12 ho12))
              | (with_reducible apply wpL_store (vs := fb)
                 · rfl
                 · rfl
                 · exact R13.out.below HB14.out
                 go_must (
                  · rw [fbl.out]; exact Nat.le_refl 32
                  · exact fb1.out
                  · rw [fbl.out]; kernel_rfl
                  intro w15 hr15 ho15)))
            exact bodyPost_ret (results_cell_row rfl _ _ _ _ _ _ _ rfl (hr15.whole (n := 32) rfl fbl.out) Tryd.underlying72 rfl (by rw [List.size_toArray, fbl.out]; kernel_rfl)) rfl ⟨by rw [HHM.out, HFB.out], ho15.below (below_step B13.out B13.out.size HB14.out) (Nat.le_refl _)⟩

  · have HKE := veil (show keyK key = key by unfold keyK; rw [if_neg (by rw [HN.out]; exact h64)])
    have OK2 := veil (show Own w2 w1.heap.size 5 1 (.slice A2 n c2) n (bcells (keyK key)) by rw [HKE.out]; exact O2.out.raise NB2.out)
    clear O2 NB2
    go_upto_block 0 with (fail)
    have HKL := veil (show (keyK key).length = n by rw [HKE.out]; exact HN.out)
    have hL : n ≤ 64 := by have h7 := HKL.out; have h8 := HKK.out; omega
    clear h64
    go_wp2
    go_loopg [5] (64 - n) (fun gk v wr => ∃ (j : Nat), gk + j = 64 - n ∧ Own wr w1.heap.size 5 1 v (n + j) (bcells (keyK key ++ List.replicate j 0)) ∧ Row wr w.heap.size 72 (List.replicate 32 (.int .u8 0)) ∧ Below w.heap.size w wr)
    case atStart => exact ⟨0, by omega, by rw [List.replicate_zero, List.append_nil]; exact OK2.out, R2.out, B2.out⟩
    case round =>
      obtain ⟨j, hgj, ho, hr, hbl⟩ := hrel
      obtain ⟨A6, c6, rfl⟩ := ho.slice
      have HO := veil ho
      have HR := veil hr
      have HBL := veil hbl
      have bl := hbl.size
      have bw1 : w1.heap.size ≤ wr.heap.size := by have := hr.lt; have := S1.out; omega
      clear ho hr hbl
      by_cases hlt : n + j < 64
      · go_wp2_with (first
          | (at_builtin
             go_must (
              with_reducible apply wpL_append (m := 1) (news := bcells [0]) (base := w1.heap.size)
              · rfl
              · rfl
              · exact Tryd.underlying22
              · exact I5.out.1
              · exact I5.out.2.1
              · exact I5.out.2.2.1
              · exact I5.out.2.2.2
              · rfl
              · exact HO.out.keep ((But.refl (fun _ => False) _).alloc _) (fun _ _ hf => hf)
              · exact src_one (x := 0) _ _ Tryd.underlying22 rfl
              · omega
              · omega
              · (simp; omega)
              intro v6 w6 ho6 hbu6 hbk6 _)))
        go_roundg (gk - 1)
        case measure => omega
        case rel =>
          refine ⟨j + 1, by omega, ?_, ?_, ?_⟩
          · rw [← bcells_append, List.append_assoc, ← List.replicate_succ'] at ho6
            exact ho6
          · exact hbu6.row (HR.out.alloc _) (fun e => by have := (HO.out.lt _ e).1; have := S1.out; omega)
          · exact (((But.of_below (S := fun _ => False) HBL.out).alloc _).own hbu6 (fun i hi => .inr (by have := (HO.out.lt i hi).1; have := S1.out; omega))).below (fun _ _ hf => hf)
      · have hj : 64 ≤ n + j := by omega
        have hj2 : n + j ≤ 64 := by omega
        have HKS := veil (show keyK key ++ List.replicate j 0 = keyP key by unfold keyP; rw [HKL.out, show j = 64 - n by omega])
        have O6 := veil (show Own wr w1.heap.size 5 1 (.slice A6 (n + j) c6) (n + j) (bcells (keyP key)) by rw [← HKS.out]; exact HO.out)
        obtain ⟨g6, o6, hA6, hg6, hc6⟩ := O6.out.cell (by omega)
        subst hA6
        have HC6 := veil hc6
        have hlt6 := (O6.out.lt g6 rfl).2
        clear hc6 HO bw1
        generalize wr = wL at HR HBL O6 HC6 hlt6 bl ⊢
        go_wp2
        go_loopg [7, 8, 9] 64 (fun gk v7 v8 i wr => ∃ (m : Nat), gk + m = 64 ∧ i = .int .i64 m ∧ Own wr wL.heap.size 5 1 v7 m (bcells (((keyP key).take m).map (· ^^^ 54))) ∧ Own wr wL.heap.size 5 1 v8 m (bcells (((keyP key).take m).map (· ^^^ 92))) ∧ (∀ b, blockOf v7 = some b → blockOf v8 ≠ some b) ∧ Below wL.heap.size wL wr)
        case atStart => exact ⟨0, by omega, rfl, Own.nil _ _ _ _, Own.nil _ _ _ _, fun b h => (by cases h), Below.refl _ _⟩
        case round =>
          obtain ⟨m, hgm, rfl, ho7, ho8, hdi, hbk⟩ := hrel
          obtain ⟨A7, c7, rfl⟩ := ho7.slice
          obtain ⟨A8, c8, rfl⟩ := ho8.slice
          have HO7 := veil ho7
          have HO8 := veil ho8
          have HDI := veil hdi
          have HBK := veil hbk
          have bk := hbk.size
          clear ho7 ho8 hdi hbk
          by_cases hm : m < 64
          · have hcm := (HC6.out m _ (bcells_at (by rw [HKP.out]; exact hm))).1
            have X54 := map_take_succ (keyP key) m (by rw [HKP.out]; exact hm) 54
            have X92 := map_take_succ (keyP key) m (by rw [HKP.out]; exact hm) 92
            generalize (keyP key).getD m 0 = x at hcm X54 X92
            have HX54 := veil X54.symm
            have HX92 := veil X92.symm
            have cm : wr.cell? ⟨g6, o6 + m, none⟩ = some (.int .u8 (x.toNat : Int)) := (But.of_below (S := fun _ => False) HBK.out).cell hcm (fun h => h)
            clear X54 X92 hcm
            go_wp2_with (first
              | (at_builtin
                 go_must (
                  first
                  | (with_reducible apply wpL_append (m := 1) (base := wL.heap.size)
                     · rfl
                     · rfl
                     · exact Tryd.underlying22
                     · exact I5.out.1
                     · exact I5.out.2.1
                     · exact I5.out.2.2.1
                     · exact I5.out.2.2.2
                     · rfl
                     · exact HO7.out.keep ((But.refl (fun _ => False) _).alloc _) (fun _ _ hf => hf)
                     · exact src_one (x := x ^^^ 54) _ _ Tryd.underlying22 (xor_byte x 54)
                     · omega
                     · omega
                     · (simp; omega)
                     intro v7 w7 ho7 hbu7 hbk7 _
                     rw [← bcells_append, HX54.out] at ho7
                     have O7 := veil ho7
                     have HBU7 := veil (((But.refl (fun b => blockOf (.slice A7 m c7) = some b) wr).alloc _).own hbu7 (fun i hi => .inl hi))
                     have HBK7 := veil (show ∀ b, blockOf v7 = some b → blockOf (.slice A7 m c7) = some b ∨ wr.heap.size ≤ b from fun b hb => (hbk7 b hb).imp id (fun h => by simp at h; omega))
                     have b7 := HBU7.out.size
                     have cm7 : w7.cell? ⟨g6, o6 + m, none⟩ = some (.int .u8 (x.toNat : Int)) := HBU7.out.cell cm (fun e => by have := (HO7.out.lt g6 e).1; omega)
                     have O8 := veil (HO8.out.keep HBU7.out (fun b h8 h7 => HDI.out b h7 h8))
                     clear ho7 hbu7 hbk7)
                  | (with_reducible apply wpL_append (m := 1) (base := wL.heap.size)
                     · rfl
                     · rfl
                     · exact Tryd.underlying22
                     · exact I5.out.1
                     · exact I5.out.2.1
                     · exact I5.out.2.2.1
                     · exact I5.out.2.2.2
                     · rfl
                     · exact O8.out.keep ((But.refl (fun _ => False) _).alloc _) (fun _ _ hf => hf)
                     · exact src_one (x := x ^^^ 92) _ _ Tryd.underlying22 (xor_byte x 92)
                     · omega
                     · omega
                     · (simp; omega)
                     intro v8 w8 ho8 hbu8 hbk8 _
                     rw [← bcells_append, HX92.out] at ho8
                     have HBU8 := veil (((But.refl (fun b => blockOf (.slice A8 m c8) = some b) w7).alloc _).own hbu8 (fun i hi => .inl hi))
                     have HBK8 := veil (show ∀ b, blockOf v8 = some b → blockOf (.slice A8 m c8) = some b ∨ w7.heap.size ≤ b from fun b hb => (hbk8 b hb).imp id (fun h => by simp at h; omega))
                     have D8 := veil (show ∀ b, blockOf v7 = some b → blockOf (.slice A8 m c8) ≠ some b from fun b h7 h8 => by
                       rcases HBK7.out b h7 with h | h
                       · exact HDI.out b h h8
                       · have := (HO8.out.lt b h8).2; omega)))))
            go_roundg (gk - 1)
            case measure => omega
            case rel =>
              refine ⟨m + 1, by omega, by go_num, ?_, ho8, ?_, ?_⟩
              · exact O7.out.keep HBU8.out (fun b h7 h8 => D8.out b h7 h8)
              · intro b h7 h8
                rcases HBK8.out b h8 with h | h
                · exact D8.out b h7 h
                · have := (O7.out.lt b h7).2; omega
              · exact (((But.of_below (S := fun _ => False) HBK.out).own HBU7.out (fun i hi => .inr (HO7.out.lt i hi).1)).own HBU8.out (fun i hi => .inr (HO8.out.lt i hi).1)).below (fun _ _ hf => hf)
          · obtain rfl : m = 64 := by omega
            have e54 : ((keyP key).take 64).map (· ^^^ 54) = keyBlock key 54 := by rw [List.take_of_length_le (by rw [HKP.out]; exact Nat.le_refl 64)]; rfl
            have e92 : ((keyP key).take 64).map (· ^^^ 92) = keyBlock key 92 := by rw [List.take_of_length_le (by rw [HKP.out]; exact Nat.le_refl 64)]; rfl
            have H7 := veil (show Own wr wL.heap.size 5 1 (.slice A7 64 c7) 64 (bcells (keyBlock key 54)) by rw [← e54]; exact HO7.out)
            have H8 := veil (show Own wr wL.heap.size 5 1 (.slice A8 64 c8) 64 (bcells (keyBlock key 92)) by rw [← e92]; exact HO8.out)
            have HRk := veil (HR.out.below HBK.out)
            have HBk := veil (below_step HBL.out bl HBK.out)
            have HTk := veil (HT.out.below HBk.out)
            have L54 := veil (keyBlock_len key 54)
            have L92 := veil (keyBlock_len key 92)
            have HHM := veil (show hmac key text = sha (keyBlock key 92 ++ sha (keyBlock key 54 ++ text)) from rfl)
            clear e54 e92 HO7 HO8 hm hgm
            generalize keyBlock key 54 = k54 at H7 L54 HHM
            generalize keyBlock key 92 = k92 at H8 L92 HHM
            have s1l := veil (show (sha (k54 ++ text)).length = 32 from sha_length _)
            have HSB2 := veil (show bcells (sha (k54 ++ text)) = bcells (sha (k54 ++ text)) from rfl)
            have sbl := veil (show (bcells (sha (k54 ++ text))).length = 32 by rw [bcells_length]; exact sha_length _)
            have sb1 := veil (bcells_one (sha (k54 ++ text)))
            have fbl := veil (show (bcells (sha (k92 ++ sha (k54 ++ text)))).length = 32 by rw [bcells_length]; exact sha_length _)
            have fb1 := veil (bcells_one (sha (k92 ++ sha (k54 ++ text))))
            have hbw : w.heap.size + 1 ≤ wL.heap.size := by have := S1.out; omega
            generalize hs1 : sha (k54 ++ text) = s1 at s1l HSB2 sbl sb1 fbl fb1 HHM
            generalize hsb : bcells s1 = sb at HSB2 sbl sb1
            have HSB3 := veil hsb
            have HS1 := veil hs1
            clear HSB2
            have HSB2 := HSB3
            generalize hfb : bcells (sha (k92 ++ s1)) = fb at fbl fb1
            have HFB := veil hfb
            clear hs1 hsb hfb
            go_wp2_with (first
              | (at_builtin
                 go_must (
                  first
                  | (with_reducible apply wpL_append (m := text.length) (news := bcells text) (base := wL.heap.size)
                     · rfl
                     · rfl
                     · exact Tryd.underlying22
                     · exact I5.out.1
                     · exact I5.out.2.1
                     · exact I5.out.2.2.1
                     · exact I5.out.2.2.2
                     · rfl
                     · exact H7.out
                     · exact HTk.out.rd.src Tryd.underlying22
                     · rw [HTN.out]; omega
                     · rw [HTN.out]; omega
                     · (omega)
                     intro v9 w9 ho9 hbu9 hbk9 _
                     rw [← bcells_append, HTN.out] at ho9
                     obtain ⟨A9, c9, rfl⟩ := ho9.slice
                     have HB9 := veil (hbu9.own (But.refl (fun _ => False) w9) (fun _ hf => hf.elim))
                     have HF9 := veil (ofR_any w9 _ (k54 ++ text) ho9.bs (by simp [L54.out, HTN.out]; omega))
                     have R9 := veil (HB9.out.row HRk.out (fun e => by have := (H7.out.lt _ e).1; omega))
                     have H89 := veil (H8.out.keep HB9.out (fun b h8 h7 => HDI.out b h7 h8))
                     have B9 := veil (((But.of_below (S := fun _ => False) HBk.out).own HB9.out (fun i hi => .inr (by have := (H7.out.lt i hi).1; omega))).below (fun _ _ hf => hf))
                     have b9 := B9.out.size
                     have b9r := HB9.out.size
                     clear ho9 hbu9 hbk9)
                  | (with_reducible apply wpL_append (m := 32) (news := sb) (base := wL.heap.size)
                     · rfl
                     · rfl
                     · exact Tryd.underlying22
                     · exact I5.out.1
                     · exact I5.out.2.1
                     · exact I5.out.2.2.1
                     · exact I5.out.2.2.2
                     · rfl
                     · exact H8a.out
                     · exact S12.out
                     · omega
                     · omega
                     · (omega)
                     intro v13 w13 ho13 hbu13 hbk13 _
                     rw [← HSB2.out, ← bcells_append] at ho13
                     obtain ⟨A13, c13, rfl⟩ := ho13.slice
                     have HF13 := veil (ofR_any w13 _ (k92 ++ s1) ho13.bs (by simp [L92.out, s1l.out]))
                     have R13 := veil (hbu13.row R12.out (fun e => by have := (H8a.out.lt _ e).1; omega))
                     have B13 := veil (((But.of_below (S := fun _ => False) B12.out).own hbu13 (fun i hi => .inr (by have := (H8a.out.lt i hi).1; omega))).below (fun _ _ hf => hf))
                     clear ho13 hbu13 hbk13)))
              | (go_at_call 45
                 go_must (
                  first
                  | (with_reducible refine HF9.out.mono ?_
                     rw [HS1.out, HSB3.out]
                     rintro e w10 ⟨rfl, hb10⟩
                     have HB10 := veil hb10
                     have b10 := hb10.size
                     clear hb10)
                  | (with_reducible refine HF13.out.mono ?_
                     rw [HFB.out]
                     rintro e w14 ⟨rfl, hb14⟩
                     have HB14 := veil hb14
                     clear hb14)))
              | (with_reducible apply wpL_store (vs := sb)
                 · rfl
                 · rfl
                 · exact Row.newAt (w := w10) 72 (List.replicate 32 (.int .u8 0)) rfl
                 go_must (
                  · rw [sbl.out]; exact Nat.le_refl 32
                  · exact sb1.out
                  · rw [sbl.out]; kernel_rfl
                  intro w12 hr12 ho12
                  have RS4 := veil (hr12.whole (n := 32) rfl sbl.out)
                  have S12 := veil (show Src Tryd.prog 1 22 (.slice (some ⟨w10.heap.size, 0, none⟩) 32 32) 32 sb w12 from by
                    have h8 := ((Own.made (n := 32) (cap := 32) (sz := 1) RS4.out (Nat.le_refl _) (by rw [sbl.out]) (by omega) 0 (Nat.zero_le _)).rdB' HSB3.out s1l.out sbl.out (List.take_of_length_le (by rw [sbl.out]; exact Nat.le_refl 32))).src (P := Tryd.prog) Tryd.underlying22
                    rw [s1l.out, HSB3.out] at h8
                    exact h8)
                  have R12 := veil (ho12.row ((R9.out.below HB10.out).alloc _) (by omega))
                  have H8a := veil (((H89.out.below HB10.out).keep ((But.refl (fun _ => False) _).alloc _) (fun _ _ hf => hf)).keep ((But.refl (fun i => i = w10.heap.size) _).only ho12 (.inl rfl)) (fun b hb e => by have := (H89.out.lt b hb).2; omega))
                  have hs12 : w12.heap.size = w10.heap.size + 1 := by rw [ho12.size]; simp
                  have b12 : w10.heap.size + 1 ≤ w12.heap.size := by omega
                  have B12 := veil ((((But.of_below (S := fun _ => False) (below_step B9.out B9.out.size HB10.out)).alloc _).only ho12 (.inr (by omega))).below (fun _ _ hf => hf))
                  clear hs12 hr12 ho12))
              | (with_reducible apply wpL_store (vs := fb)
                 · rfl
                 · rfl
                 · exact R13.out.below HB14.out
                 go_must (
                  · rw [fbl.out]; exact Nat.le_refl 32
                  · exact fb1.out
                  · rw [fbl.out]; kernel_rfl
                  intro w15 hr15 ho15)))
            exact bodyPost_ret (results_cell_row rfl _ _ _ _ _ _ _ rfl (hr15.whole (n := 32) rfl fbl.out) Tryd.underlying72 rfl (by rw [List.size_toArray, fbl.out]; kernel_rfl)) rfl ⟨by rw [HHM.out, HFB.out], ho15.below (below_step B13.out B13.out.size HB14.out) (Nat.le_refl _)⟩

end Go.Proofs.YtojffibjjicddaaDoor
