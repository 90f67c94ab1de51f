/- The reference's Open answers openP, for datagrams of 26 to 512 bytes. -/
import Derived.Test.YtojffibjjicddaaDoorR6
import Derived.Test.YtojffibjjicddaaDoorReg3
namespace Go.Proofs.YtojffibjjicddaaDoor
open Go.RowKit
set_option linter.unusedVariables false
set_option linter.unusedSimpArgs false
theorem foldN_le (b : List UInt8) : ∀ s : Nat, s * 256 ^ b.length ≤ b.foldl (fun s c => s * 256 + c.toNat) s ∧ b.foldl (fun s c => s * 256 + c.toNat) s < (s + 1) * 256 ^ b.length := by
  induction b with
  | nil => intro s; simp
  | cons c b ih =>
    intro s
    rw [List.foldl_cons, List.length_cons]
    have h1 := ih (s * 256 + c.toNat)
    have h2 : (s * 256 + c.toNat + 1) * 256 ^ b.length ≤ (s + 1) * 256 * 256 ^ b.length := Nat.mul_le_mul_right _ (by have := c.toNat_lt; omega)
    have h3 : s * 256 * 256 ^ b.length ≤ (s * 256 + c.toNat) * 256 ^ b.length := Nat.mul_le_mul_right _ (by omega)
    rw [Nat.pow_succ, Nat.mul_comm (256 ^ b.length) 256, ← Nat.mul_assoc, ← Nat.mul_assoc]
    exact ⟨Nat.le_trans h3 h1.1, Nat.lt_of_lt_of_le h1.2 h2⟩
theorem RdB.alloc' {w : World} {v : Value} {xs : List UInt8} (h : RdB w v xs) (o : Obj) : RdB (w.alloc o) v xs := h.below ((Below.refl _ _).alloc (Nat.le_refl _) _)
theorem be8N_cons (x : UInt8) (l : List UInt8) : x.toNat * 256 ^ l.length ≤ be8N (x :: l) ∧ be8N (x :: l) < (x.toNat + 1) * 256 ^ l.length := by
  have := foldN_le l x.toNat
  unfold be8N
  rw [List.foldl_cons, Nat.zero_mul, Nat.zero_add]
  exact this
theorem seq_cons (b : List UInt8) (h : 10 ≤ b.length) : ∃ l, (b.drop 2).take 8 = b.getD 2 0 :: l ∧ l.length = 7 := by
  have e1 : b.drop 2 = b.getD 2 0 :: b.drop 3 := by
    rw [List.drop_eq_getElem_cons (by omega)]
    simp [List.getD_eq_getElem?_getD, List.getElem?_eq_getElem (show 2 < b.length by omega)]
  exact ⟨(b.drop 3).take 7, by rw [e1]; rfl, by rw [List.length_take, List.length_drop]; omega⟩
theorem seq_big (b : List UInt8) (h : 10 ≤ b.length) (hx : 64 < (b.getD 2 0).toNat) : 4611686018427387904 < be8N ((b.drop 2).take 8) := by
  obtain ⟨l, he, hl⟩ := seq_cons b h
  rw [he]
  have := (be8N_cons (b.getD 2 0) l).1
  rw [hl] at this
  omega
theorem seq_small (b : List UInt8) (h : 10 ≤ b.length) (hx : (b.getD 2 0).toNat ≤ 64) (m : Nat) (hm : m < 8) : be8N (((b.drop 2).take 8).take m) ≤ 18295873486192640 := by
  obtain ⟨l, he, hl⟩ := seq_cons b h
  rw [he]
  cases m with
  | zero => rw [List.take_zero]; exact Nat.zero_le _
  | succ m =>
    rw [List.take_succ_cons]
    have h1 := (be8N_cons (b.getD 2 0) (l.take m)).2
    have h2 : (l.take m).length ≤ 6 := by rw [List.length_take]; omega
    have h3 : 256 ^ (l.take m).length ≤ 256 ^ 6 := Nat.pow_le_pow_right (by decide) h2
    have h4 : ((b.getD 2 0).toNat + 1) * 256 ^ (l.take m).length ≤ 65 * 256 ^ 6 := Nat.mul_le_mul (by omega) h3
    omega
theorem opnP_tag (key b : List UInt8) (dir : Int) (h1 : ¬ b.length < 26) (h2 : ¬ 512 < b.length) (h3 : tag key (b.take (b.length - 16)) ≠ b.drop (b.length - 16)) : openP key dir b = .error 11 := by
  unfold openP; rw [if_neg h1, if_neg h2, if_pos h3]
theorem opnP_side (key b : List UInt8) (dir : Int) (h1 : ¬ b.length < 26) (h2 : ¬ 512 < b.length) (h3 : tag key (b.take (b.length - 16)) = b.drop (b.length - 16)) (h4 : b.getD 0 0 ≠ 1 ∨ ((b.getD 1 0).toNat : Int) ≠ dir) : openP key dir b = .error 13 := by
  unfold openP; rw [if_neg h1, if_neg h2, if_neg (fun h => h h3), if_pos h4]
theorem opnP_ok (key b : List UInt8) (dir : Int) (h1 : ¬ b.length < 26) (h2 : ¬ 512 < b.length) (h3 : tag key (b.take (b.length - 16)) = b.drop (b.length - 16)) (h4 : ¬ (b.getD 0 0 ≠ 1 ∨ ((b.getD 1 0).toNat : Int) ≠ dir)) (h5 : ¬ (be8N ((b.drop 2).take 8) < 1 ∨ 4611686018427387904 < be8N ((b.drop 2).take 8) ∨ sidedP dir = false)) : openP key dir b = .ok (be8N ((b.drop 2).take 8), (b.take (b.length - 16)).drop 10) := by
  unfold openP; rw [if_neg h1, if_neg h2, if_neg (fun h => h h3), if_neg h4, if_neg h5]
theorem opnP_arg (key b : List UInt8) (dir : Int) (h1 : ¬ b.length < 26) (h2 : ¬ 512 < b.length) (h3 : tag key (b.take (b.length - 16)) = b.drop (b.length - 16)) (h4 : ¬ (b.getD 0 0 ≠ 1 ∨ ((b.getD 1 0).toNat : Int) ≠ dir)) (h5 : be8N ((b.drop 2).take 8) < 1 ∨ 4611686018427387904 < be8N ((b.drop 2).take 8) ∨ sidedP dir = false) : openP key dir b = .error 1 := by
  unfold openP; rw [if_neg h1, if_neg h2, if_neg (fun h => h h3), if_neg h4, if_pos h5]
def OpenR (e : Ending) (w' : World) (key : List UInt8) (dir : Int) (b : List UInt8) : Prop :=
  match openP key dir b with
  | .error n => e = .returned (.tuple #[.agg #[.int .i64 0, .int .i64 0, .slice none 0 0], .int .i64 n])
  | .ok (s, body) => ∃ A c, e = .returned (.tuple #[.agg #[.int .i64 dir, .int .i64 (s : Int), .slice A body.length c], .int .i64 0]) ∧ Bs w' (.slice A body.length c) body
set_option maxRecDepth 100000 in
set_option maxHeartbeats 4000000 in
theorem openR_any (w : World) (kv bv : Value) (key b : List UInt8) (dir : Int) (hk : Bs w kv key) (hb : Bs w bv b) (hkl : key.length ≤ 1000000) (h26 : 26 ≤ b.length) (h512 : b.length ≤ 512) :
    Calls Tryd.prog 18 #[kv, .int .i64 dir, bv] w fun e w' => OpenR e w' key dir b ∧ Below w.heap.size w w' := by
  obtain ⟨A, c, rfl, hc⟩ := hb.slice
  have N26 := veil (show ¬ b.length < 26 by omega)
  have N512 := veil (show ¬ 512 < b.length by omega)
  have HBS := veil hb
  have hrd := hb.rd
  have HKL := veil hkl
  have HK := veil hk
  generalize hn : b.length = n at hrd hc h26 h512 HBS
  have HN := veil hn
  clear hn
  obtain ⟨hcap1, hcap2⟩ := hc
  obtain ⟨n16, hn16, hn10, hn496⟩ : ∃ m : Nat, n = m + 16 ∧ 10 ≤ m ∧ m ≤ 496 := ⟨n - 16, by omega, by omega, by omega⟩
  subst hn16
  obtain ⟨A', c', he, hb1⟩ := hrd
  injection he with he1 he2 he3
  subst he1 he3
  obtain ⟨g, o, rfl, hcell⟩ := hb1 (by rw [HN.out]; omega)
  have HC := veil hcell
  have hg := HBS.out.lt g rfl
  have HG := veil hg
  have E16 := veil (show b.length - 16 = n16 by rw [HN.out]; omega)
  have RT := veil (show Bs w (.slice (some ⟨g, o, none⟩) n16 c) (b.take n16) from ⟨RdB.part HC.out 0 n16 c (by rw [HN.out]; omega), fun k hk => by have := Option.some.inj (show some g = some k from hk); omega, fun A1 m1 c1 e => by injection e with e1 e2 e3; subst e2 e3; exact ⟨by omega, hcap2⟩⟩)
  have RO := veil (show RdB w (.slice (some ⟨g, o + n16, none⟩) 16 (c - n16)) (b.drop n16) from by
    have h1 := RdB.part HC.out n16 16 (c - n16) (by rw [HN.out]; exact Nat.le_refl _)
    rw [List.take_of_length_le (by rw [List.length_drop, HN.out]; omega)] at h1
    exact h1)
  obtain ⟨i5, hi5, hz5, hs5, hb5⟩ := info_u8
  have I5 := veil (And.intro hi5 (And.intro hz5 (And.intro hs5 hb5)))
  clear hk hb hb1 hcell he2 hg hi5 hz5 hs5 hb5
  go_enter Tryd.func18, Tryd.ntmps18
  go_upto_region 6 with (fail)
  generalize hW1 : w.alloc _ = w1
  have R1 := veil (show Row w1 w.heap.size 24 [.int .i64 0, .int .i64 0, .slice none 0 0] by rw [← hW1]; exact Row.newAt _ _ rfl)
  have B1 := veil (show Below w.heap.size w w1 by rw [← hW1]; exact (Below.refl _ _).alloc (Nat.le_refl _) _)
  clear hW1
  have hcm : c ≠ n16 := by omega
  have ew1 : IntKind.i64.wrap ((n16 : Int) + 16 - 16) = (n16 : Int) := by rw [IntWalk.i64_in _ (by omega)]; omega
  refine wp_region_ordp (fun _ _ d _ _ h => by cases d <;> exact h) [0, 1, 2, 3, 4, 6, 7, 8, 9] [5, 10, 11] mixed (by kernel_rfl) ?_
  simp only [pick, List.map_cons, List.map_nil, List.getD_cons_succ, List.getD_cons_zero]
  repeat (go_big_quiet_step (fail))
  refine wpQuiet_nil ?_
  have R2 := veil (R1.out.drewN 1)
  have B2 := veil (below_drewN B1.out 1)
  generalize hww : w1.drewN 1 = w2 at R2 B2 ⊢
  clear R1 B1 hww
  have HTG := veil (tagR_any w2 kv _ key (b.take n16) (HK.out.below B2.out) (RT.out.below B2.out) HKL.out (by rw [List.length_take]; omega))
  by_cases htag : tag key (b.take n16) = b.drop n16
  · have HTD := veil (decide_eq_true htag)
    have HT := veil (show tag key (b.take (b.length - 16)) = b.drop (b.length - 16) by rw [E16.out]; exact htag)
    clear htag
    go_upto_region 8 with (first
      | (go_at_call 29
         go_must (
          with_reducible refine HTG.out.mono ?_
          rintro e w3 ⟨A3, c3, rfl, ho3, hb3⟩
          have B3 := veil (below_step B2.out B2.out.size hb3)
          have R3 := veil (R2.out.below hb3)
          have HS3 := veil (same_any w3 _ _ (tag key (b.take n16)) (b.drop n16) ho3.rdB.1 (RO.out.below B3.out) (by rw [tag_length]; decide) (by rw [List.length_drop, HN.out]; omega))
          clear ho3 hb3))
      | (go_at_call 15
         go_must (
          with_reducible refine HS3.out.mono ?_
          rw [HTD.out]
          rintro e w' ⟨rfl, n4, rfl⟩)))
    have R4 := veil (R3.out.drewN n4)
    have B4 := veil (below_drewN B3.out n4)
    generalize hww : w3.drewN n4 = w4 at R4 B4 ⊢
    clear hww R3 B3 R2 B2 HTD
    have C4 := veil (show ∀ j, j < n16 + 16 → w4.cell? ⟨g, o + j, none⟩ = some (.int .u8 ((b.getD j 0).toNat : Int)) from fun j hj => (B4.out.cell (p := ⟨g, o + j, none⟩) HG.out).trans (HC.out j (by rw [HN.out]; omega)))
    have HRC := veil (RdB.part HC.out 10 (n16 - 10) (c - 10) (by rw [HN.out]; omega))
    have c0 := C4.out 0 (by omega)
    rw [Nat.add_zero] at c0
    have c1 := C4.out 1 (by omega)
    have c2 := C4.out 2 (by omega)
    have SB := seq_big b (by rw [HN.out]; omega)
    have SS := seq_small b (by rw [HN.out]; omega)
    generalize hx0 : b.getD 0 0 = x0 at c0
    generalize hx1 : b.getD 1 0 = x1 at c1
    generalize hx2 : b.getD 2 0 = x2 at c2
    rw [hx2] at SB SS
    have SB := veil SB
    have SS := veil SS
    have HX0 := veil hx0
    have HX1 := veil hx1
    clear hx0 hx1 hx2
    have lx1 := x1.toNat_lt
    have lx2 := x2.toNat_lt
    by_cases h0 : x0 = 1
    · subst h0
      by_cases h1 : (x1.toNat : Int) = dir
      · subst h1
        have HSD := veil (show ¬ (b.getD 0 0 ≠ 1 ∨ ((b.getD 1 0).toNat : Int) ≠ (x1.toNat : Int)) by rw [HX0.out, HX1.out]; simp)
        by_cases h2 : 64 < x2.toNat
        · have HP := veil (opnP_arg key b _ N26.out N512.out HT.out HSD.out (.inr (.inl (SB.out h2))))
          go_wp2_with (first
            | (with_reducible apply wpL_store (vs := [.int .i64 0, .int .i64 0, .slice none 0 0]) (cs := [.int .i64 0, .int .i64 0, .slice none 0 0])
               · rfl
               · rfl
               · exact R4.out
               go_must (
                · exact Nat.le_refl 3
                · (simp [Value.oneCell'])
                · kernel_rfl
                intro w20 hr20 ho20)))
          exact bodyPost_ret (results_ct rfl _ _ _ _ _ _ _ rfl (hr20.whole (n := 3) rfl rfl) Tryd.underlying24 rfl (by kernel_rfl)) rfl ⟨by unfold OpenR; rw [HP.out]; rfl, ((But.of_below (S := fun _ => False) B4.out).only ho20 (.inr (Nat.le_refl _))).below (fun _ _ hf => hf)⟩
        · by_cases h3 : 1 < x1.toNat
          · have HP := veil (opnP_arg key b _ N26.out N512.out HT.out HSD.out (.inr (.inr (by unfold sidedP; simp; omega))))
            go_wp2_with (first
              | (with_reducible apply wpL_store (vs := [.int .i64 0, .int .i64 0, .slice none 0 0]) (cs := [.int .i64 0, .int .i64 0, .slice none 0 0])
                 · rfl
                 · rfl
                 · exact R4.out
                 go_must (
                  · exact Nat.le_refl 3
                  · (simp [Value.oneCell'])
                  · kernel_rfl
                  intro w20 hr20 ho20)))
            exact bodyPost_ret (results_ct rfl _ _ _ _ _ _ _ rfl (hr20.whole (n := 3) rfl rfl) Tryd.underlying24 rfl (by kernel_rfl)) rfl ⟨by unfold OpenR; rw [HP.out]; rfl, ((But.of_below (S := fun _ => False) B4.out).only ho20 (.inr (Nat.le_refl _))).below (fun _ _ hf => hf)⟩
          · have hsd := veil (show sidedP (x1.toNat : Int) = true by unfold sidedP; simp; omega)
            have HST := veil (show ∀ m, m < 8 → be8N (((b.drop 2).take 8).take (m + 1)) = be8N (((b.drop 2).take 8).take m) * 256 + (b.getD (2 + m) 0).toNat ∧ be8N (((b.drop 2).take 8).take m) ≤ 18295873486192640 from fun m hm => by
              have hl : ((b.drop 2).take 8).length = 8 := by rw [List.length_take, List.length_drop, HN.out]; omega
              refine ⟨?_, SS.out (by omega) m hm⟩
              rw [be8N_step _ m (by omega)]
              congr 2
              rw [List.getD_eq_getElem?_getD, List.getD_eq_getElem?_getD, List.getElem?_take, if_pos hm, List.getElem?_drop])
            have H88 := veil (show ((b.drop 2).take 8).take 8 = (b.drop 2).take 8 from List.take_of_length_le (by rw [List.length_take]; omega))
            have HZ := veil (show be8N (((b.drop 2).take 8).take 0) = 0 from rfl)
            clear SS SB
            go_wp2
            clear c0 c1 c2
            go_loopw [9, 10] (fun s i wr => ∃ (m j : Nat), m ≤ 8 ∧ j = 2 + m ∧ i = .int .i64 j ∧ s = .int .i64 (be8N (((b.drop 2).take 8).take m) : Int) ∧ wr = w4) (fun _ i _ => 10 - (intOf i).toNat)
            case atStart => exact ⟨0, 2, by omega, rfl, rfl, by rw [HZ.out]; rfl, rfl⟩
            case round =>
              obtain ⟨m, j, hm, hj, rfl, rfl, rfl⟩ := hrel
              by_cases hm8 : m < 8
              · have cm := C4.out j (by omega)
                have HS := HST.out m hm8
                rw [← hj] at HS
                have HS := veil HS
                have HJ := veil hj
                have j10 : j < 10 := by omega
                have j2 : 2 ≤ j := by omega
                generalize hq : be8N (((b.drop 2).take 8).take m) = q at HS ⊢
                generalize b.getD j 0 = y at cm HS
                have ly := y.toNat_lt
                have lq := HS.out.2
                clear hq hj hm hm8
                go_wp2
                go_roundw
                case rel =>
                  refine ⟨m + 1, j + 1, by have := HJ.out; omega, by have := HJ.out; omega, by go_num, ?_, (by first | rfl | trivial)⟩
                  rw [HS.out.1]
                  go_num
                case measure => simp [intOf]; omega
              · obtain rfl : m = 8 := by omega
                obtain rfl : j = 10 := by omega
                clear hj hm8 hm
                rw [H88.out]
                have HBT := (show (b.drop 10).take (n16 - 10) = (b.take (b.length - 16)).drop 10 by rw [E16.out, List.drop_take])
                have HBL := (show ((b.drop 10).take (n16 - 10)).length = n16 - 10 by rw [List.length_take, List.length_drop, HN.out]; omega)
                generalize hbody : (b.drop 10).take (n16 - 10) = body at HRC HBT HBL
                have HBT := veil HBT
                obtain ⟨nb, hnb⟩ : ∃ k, n16 = k + 10 := ⟨n16 - 10, by omega⟩
                subst hnb
                have HRC := HRC.out
                rw [show nb + 10 - 10 = nb by omega] at HRC HBL
                have HNB := veil HBL
                have HSRC := ((HRC.below B4.out).alloc' (.cells #[] 5)).src (P := Tryd.prog) Tryd.underlying22
                rw [HNB.out] at HSRC
                have HSRC := veil HSRC
                clear hbody HBL HC C4 HST H88 HRC
                generalize hq : be8N ((b.drop 2).take 8) = q at *
                have HQ := veil hq
                clear hq
                by_cases hq1 : q < 1
                · have HP := veil (opnP_arg key b _ N26.out N512.out HT.out HSD.out (.inl (by rw [HQ.out]; exact hq1)))
                  have HW := veil (show wrongP (x1.toNat : Int) (q : Int) nb = 1 by unfold wrongP; rw [if_pos (.inr (.inl (by omega)))])
                  go_wp2_with (first
                    | (at_builtin
                       go_must (
                        with_reducible apply wpL_append (m := nb) (news := bcells body) (base := wr.heap.size)
                        · rfl
                        · rfl
                        · exact Tryd.underlying22
                        · exact I5.out.1
                        · exact I5.out.2.1
                        · exact I5.out.2.2.1
                        · exact I5.out.2.2.2
                        · rfl
                        · exact Own.made (cs := []) (Row.newAt (w := wr) 5 [] rfl) (Nat.le_refl 0) rfl (Nat.zero_le _) wr.heap.size (Nat.le_refl _)
                        · exact HSRC.out
                        · omega
                        · omega
                        · simp
                        intro v6 w6 ho6 hbu6 hbk6 _
                        rw [Nat.zero_add] at ho6
                        replace ho6 : Own w6 wr.heap.size 5 1 v6 nb (bcells body) := ho6
                        obtain ⟨A6, c6, rfl⟩ := ho6.slice
                        have O6 := veil ho6
                        have HB6 := veil ((((But.refl (fun _ => False) wr).alloc _).own hbu6 (fun i hi => .inr (by have h7 := Option.some.inj (show some wr.heap.size = some i from hi); omega))).below (fun _ _ hf => hf))
                        have R6 := veil (R4.out.below HB6.out)
                        have B6 := veil (below_step B4.out B4.out.size HB6.out)
                        have b6 := R6.out.lt
                        clear ho6 hbu6 hbk6))
                      | (with_reducible apply wpL_store (vs := [.int .i64 (x1.toNat : Int), .int .i64 (q : Int), .slice A6 nb c6])
                         · rfl
                         · rfl
                         · exact Row.newAt (w := w6) 24 [.int .i64 0, .int .i64 0, .slice none 0 0] rfl
                         go_must (
                          · exact Nat.le_refl 3
                          · (simp [Value.oneCell'])
                          · kernel_rfl
                          intro w7 hr7 ho7
                          have R7 := veil (hr7.whole (n := 3) rfl rfl)
                          have B7 := veil ((((But.of_below (S := fun _ => False) B6.out).alloc _).only ho7 (.inr (by omega))).below (fun _ _ hf => hf))
                          have RR7 := veil (ho7.row (R6.out.alloc _) (by omega))
                          have O7 := veil ((O6.out.keep ((But.refl (fun _ => False) _).alloc _) (fun _ _ hf => hf)).keep ((But.refl (fun i => i = w6.heap.size) _).only ho7 (.inl rfl)) (fun b hb e => by have := (O6.out.lt b hb).2; omega))
                          have hxa := R7.out.cell (i := 0) rfl
                          have hxb := R7.out.cell (i := 1) rfl
                          have hxc := R7.out.cell (i := 2) rfl
                          clear hr7 ho7))
                      | (go_at_call 16
                         go_must (
                          with_reducible refine (wrong_any _ _ _ A6 nb c6 (by omega)).mono ?_
                          rw [HW.out]
                          rintro e w8 ⟨rfl, hb8⟩
                          have B8 := veil (below_step B7.out B7.out.size hb8)
                          have RR8 := veil (RR7.out.below hb8)
                          have O8 := veil (O7.out.below hb8)
                          have R8 := veil (R7.out.below hb8)
                          have hxa8 := R8.out.cell (i := 0) rfl
                          have hxb8 := R8.out.cell (i := 1) rfl
                          have hxc8 := R8.out.cell (i := 2) rfl
                          clear hb8))
                    | (with_reducible apply wpL_store (vs := [.int .i64 0, .int .i64 0, .slice none 0 0]) (cs := [.int .i64 0, .int .i64 0, .slice none 0 0])
                       · rfl
                       · rfl
                       · exact RR8.out
                       go_must (
                        · exact Nat.le_refl 3
                        · (simp [Value.oneCell'])
                        · kernel_rfl
                        intro w20 hr20 ho20)))
                  exact bodyPost_ret (results_ct rfl _ _ _ _ _ _ _ rfl (hr20.whole (n := 3) rfl rfl) Tryd.underlying24 rfl (by kernel_rfl)) rfl ⟨by unfold OpenR; rw [HP.out]; rfl, ((But.of_below (S := fun _ => False) B8.out).only ho20 (.inr (Nat.le_refl _))).below (fun _ _ hf => hf)⟩
                · by_cases hq2 : 4611686018427387904 < q
                  · have HP := veil (opnP_arg key b _ N26.out N512.out HT.out HSD.out (.inr (.inl (by rw [HQ.out]; exact hq2))))
                    have HW := veil (show wrongP (x1.toNat : Int) (q : Int) nb = 1 by unfold wrongP; rw [if_pos (.inr (.inr (by omega)))])
                    go_wp2_with (first
                      | (at_builtin
                         go_must (
                          with_reducible apply wpL_append (m := nb) (news := bcells body) (base := wr.heap.size)
                          · rfl
                          · rfl
                          · exact Tryd.underlying22
                          · exact I5.out.1
                          · exact I5.out.2.1
                          · exact I5.out.2.2.1
                          · exact I5.out.2.2.2
                          · rfl
                          · exact Own.made (cs := []) (Row.newAt (w := wr) 5 [] rfl) (Nat.le_refl 0) rfl (Nat.zero_le _) wr.heap.size (Nat.le_refl _)
                          · exact HSRC.out
                          · omega
                          · omega
                          · simp
                          intro v6 w6 ho6 hbu6 hbk6 _
                          rw [Nat.zero_add] at ho6
                          replace ho6 : Own w6 wr.heap.size 5 1 v6 nb (bcells body) := ho6
                          obtain ⟨A6, c6, rfl⟩ := ho6.slice
                          have O6 := veil ho6
                          have HB6 := veil ((((But.refl (fun _ => False) wr).alloc _).own hbu6 (fun i hi => .inr (by have h7 := Option.some.inj (show some wr.heap.size = some i from hi); omega))).below (fun _ _ hf => hf))
                          have R6 := veil (R4.out.below HB6.out)
                          have B6 := veil (below_step B4.out B4.out.size HB6.out)
                          have b6 := R6.out.lt
                          clear ho6 hbu6 hbk6))
                        | (with_reducible apply wpL_store (vs := [.int .i64 (x1.toNat : Int), .int .i64 (q : Int), .slice A6 nb c6])
                           · rfl
                           · rfl
                           · exact Row.newAt (w := w6) 24 [.int .i64 0, .int .i64 0, .slice none 0 0] rfl
                           go_must (
                            · exact Nat.le_refl 3
                            · (simp [Value.oneCell'])
                            · kernel_rfl
                            intro w7 hr7 ho7
                            have R7 := veil (hr7.whole (n := 3) rfl rfl)
                            have B7 := veil ((((But.of_below (S := fun _ => False) B6.out).alloc _).only ho7 (.inr (by omega))).below (fun _ _ hf => hf))
                            have RR7 := veil (ho7.row (R6.out.alloc _) (by omega))
                            have O7 := veil ((O6.out.keep ((But.refl (fun _ => False) _).alloc _) (fun _ _ hf => hf)).keep ((But.refl (fun i => i = w6.heap.size) _).only ho7 (.inl rfl)) (fun b hb e => by have := (O6.out.lt b hb).2; omega))
                            have hxa := R7.out.cell (i := 0) rfl
                            have hxb := R7.out.cell (i := 1) rfl
                            have hxc := R7.out.cell (i := 2) rfl
                            clear hr7 ho7))
                        | (go_at_call 16
                           go_must (
                            with_reducible refine (wrong_any _ _ _ A6 nb c6 (by omega)).mono ?_
                            rw [HW.out]
                            rintro e w8 ⟨rfl, hb8⟩
                            have B8 := veil (below_step B7.out B7.out.size hb8)
                            have RR8 := veil (RR7.out.below hb8)
                            have O8 := veil (O7.out.below hb8)
                            have R8 := veil (R7.out.below hb8)
                            have hxa8 := R8.out.cell (i := 0) rfl
                            have hxb8 := R8.out.cell (i := 1) rfl
                            have hxc8 := R8.out.cell (i := 2) rfl
                            clear hb8))
                      | (with_reducible apply wpL_store (vs := [.int .i64 0, .int .i64 0, .slice none 0 0]) (cs := [.int .i64 0, .int .i64 0, .slice none 0 0])
                         · rfl
                         · rfl
                         · exact RR8.out
                         go_must (
                          · exact Nat.le_refl 3
                          · (simp [Value.oneCell'])
                          · kernel_rfl
                          intro w20 hr20 ho20)))
                    exact bodyPost_ret (results_ct rfl _ _ _ _ _ _ _ rfl (hr20.whole (n := 3) rfl rfl) Tryd.underlying24 rfl (by kernel_rfl)) rfl ⟨by unfold OpenR; rw [HP.out]; rfl, ((But.of_below (S := fun _ => False) B8.out).only ho20 (.inr (Nat.le_refl _))).below (fun _ _ hf => hf)⟩
                  · have HP0 := opnP_ok key b _ N26.out N512.out HT.out HSD.out (by rw [HQ.out, hsd.out]; simp; omega)
                    rw [HQ.out, ← HBT.out] at HP0
                    have HP := veil HP0
                    have HW := veil (show wrongP (x1.toNat : Int) (q : Int) nb = 0 by unfold wrongP; rw [if_neg (by omega), if_neg (by omega)])
                    clear HP0
                    go_wp2_with (first
                      | (go_at_call 16
                         go_must (
                          with_reducible refine (wrong_any _ _ _ A6 nb c6 (by omega)).mono ?_
                          rw [HW.out]
                          rintro e w8 ⟨rfl, hb8⟩
                          have B8 := veil (below_step B7.out B7.out.size hb8)
                          have RR8 := veil (RR7.out.below hb8)
                          have O8 := veil (O7.out.below hb8)
                          have R8 := veil (R7.out.below hb8)
                          have hxa8 := R8.out.cell (i := 0) rfl
                          have hxb8 := R8.out.cell (i := 1) rfl
                          have hxc8 := R8.out.cell (i := 2) rfl
                          clear hb8))
                      | (at_builtin
                         go_must (
                          with_reducible apply wpL_append (m := nb) (news := bcells body) (base := wr.heap.size)
                          · rfl
                          · rfl
                          · exact Tryd.underlying22
                          · exact I5.out.1
                          · exact I5.out.2.1
                          · exact I5.out.2.2.1
                          · exact I5.out.2.2.2
                          · rfl
                          · exact Own.made (cs := []) (Row.newAt (w := wr) 5 [] rfl) (Nat.le_refl 0) rfl (Nat.zero_le _) wr.heap.size (Nat.le_refl _)
                          · exact HSRC.out
                          · omega
                          · omega
                          · simp
                          intro v6 w6 ho6 hbu6 hbk6 _
                          rw [Nat.zero_add] at ho6
                          replace ho6 : Own w6 wr.heap.size 5 1 v6 nb (bcells body) := ho6
                          obtain ⟨A6, c6, rfl⟩ := ho6.slice
                          have O6 := veil ho6
                          have HB6 := veil ((((But.refl (fun _ => False) wr).alloc _).own hbu6 (fun i hi => .inr (by have h7 := Option.some.inj (show some wr.heap.size = some i from hi); omega))).below (fun _ _ hf => hf))
                          have R6 := veil (R4.out.below HB6.out)
                          have B6 := veil (below_step B4.out B4.out.size HB6.out)
                          have b6 := R6.out.lt
                          clear ho6 hbu6 hbk6))
                      | (with_reducible apply wpL_store (vs := [.int .i64 (x1.toNat : Int), .int .i64 (q : Int), .slice A6 nb c6])
                         · rfl
                         · rfl
                         · exact Row.newAt (w := w6) 24 [.int .i64 0, .int .i64 0, .slice none 0 0] rfl
                         go_must (
                          · exact Nat.le_refl 3
                          · (simp [Value.oneCell'])
                          · kernel_rfl
                          intro w7 hr7 ho7
                          have R7 := veil (hr7.whole (n := 3) rfl rfl)
                          have B7 := veil ((((But.of_below (S := fun _ => False) B6.out).alloc _).only ho7 (.inr (by omega))).below (fun _ _ hf => hf))
                          have RR7 := veil (ho7.row (R6.out.alloc _) (by omega))
                          have O7 := veil ((O6.out.keep ((But.refl (fun _ => False) _).alloc _) (fun _ _ hf => hf)).keep ((But.refl (fun i => i = w6.heap.size) _).only ho7 (.inl rfl)) (fun b hb e => by have := (O6.out.lt b hb).2; omega))
                          have hxa := R7.out.cell (i := 0) rfl
                          have hxb := R7.out.cell (i := 1) rfl
                          have hxc := R7.out.cell (i := 2) rfl
                          clear hr7 ho7))
                      | (with_reducible apply wpL_store (vs := [.int .i64 (x1.toNat : Int), .int .i64 (q : Int), .slice A6 nb c6]) (cs := [.int .i64 0, .int .i64 0, .slice none 0 0])
                         · rfl
                         · rfl
                         · exact RR8.out
                         go_must (
                          · exact Nat.le_refl 3
                          · (simp [Value.oneCell'])
                          · kernel_rfl
                          intro w20 hr20 ho20)))
                    exact bodyPost_ret (results_ct rfl _ _ _ _ _ _ _ rfl (hr20.whole (n := 3) rfl rfl) Tryd.underlying24 rfl (by kernel_rfl)) rfl ⟨by
                      unfold OpenR
                      rw [HP.out]
                      exact ⟨A6, c6, by rw [HNB.out]; rfl, by rw [HNB.out]; exact (O8.out.keep ((But.refl (fun i => i = w.heap.size) _).only ho20 (.inl rfl)) (fun b hb e => by have := (O8.out.lt b hb).1; have := B4.out.size; have := R4.out.lt; omega)).bs⟩, ((But.of_below (S := fun _ => False) B8.out).only ho20 (.inr (Nat.le_refl _))).below (fun _ _ hf => hf)⟩
      · have e1 : ((x1.toNat : Int) != dir) = true := by simpa using h1
        have HP := veil (opnP_side key b dir N26.out N512.out HT.out (show b.getD 0 0 ≠ 1 ∨ ((b.getD 1 0).toNat : Int) ≠ dir by rw [HX1.out]; exact .inr h1))
        skip
        go_wp2_with (first
          | (with_reducible apply wpL_store (vs := [.int .i64 0, .int .i64 0, .slice none 0 0]) (cs := [.int .i64 0, .int .i64 0, .slice none 0 0])
             · rfl
             · rfl
             · exact R4.out
             go_must (
              · exact Nat.le_refl 3
              · (simp [Value.oneCell'])
              · kernel_rfl
              intro w20 hr20 ho20)))
        exact bodyPost_ret (results_ct rfl _ _ _ _ _ _ _ rfl (hr20.whole (n := 3) rfl rfl) Tryd.underlying24 rfl (by kernel_rfl)) rfl ⟨by unfold OpenR; rw [HP.out]; rfl, ((But.of_below (S := fun _ => False) B4.out).only ho20 (.inr (Nat.le_refl _))).below (fun _ _ hf => hf)⟩
    · have e0 : ((x0.toNat : Int) != 1) = true := by
        have h7 : x0.toNat ≠ 1 := fun e => h0 (UInt8.toNat_inj.1 (by rw [e]; rfl))
        simp; omega
      have HP := veil (opnP_side key b dir N26.out N512.out HT.out (show b.getD 0 0 ≠ 1 ∨ ((b.getD 1 0).toNat : Int) ≠ dir by rw [HX0.out]; exact .inl h0))
      skip
      go_wp2_with (first
        | (with_reducible apply wpL_store (vs := [.int .i64 0, .int .i64 0, .slice none 0 0]) (cs := [.int .i64 0, .int .i64 0, .slice none 0 0])
           · rfl
           · rfl
           · exact R4.out
           go_must (
            · exact Nat.le_refl 3
            · (simp [Value.oneCell'])
            · kernel_rfl
            intro w20 hr20 ho20)))
      exact bodyPost_ret (results_ct rfl _ _ _ _ _ _ _ rfl (hr20.whole (n := 3) rfl rfl) Tryd.underlying24 rfl (by kernel_rfl)) rfl ⟨by unfold OpenR; rw [HP.out]; rfl, ((But.of_below (S := fun _ => False) B4.out).only ho20 (.inr (Nat.le_refl _))).below (fun _ _ hf => hf)⟩
  · have HTD := veil (decide_eq_false htag)
    have HP := veil (opnP_tag key b dir N26.out N512.out (show tag key (b.take (b.length - 16)) ≠ b.drop (b.length - 16) by rw [E16.out]; exact htag))
    clear htag
    go_upto_region 7 with (first
      | (go_at_call 29
         go_must (
          with_reducible refine HTG.out.mono ?_
          rintro e w3 ⟨A3, c3, rfl, ho3, hb3⟩
          have B3 := veil (below_step B2.out B2.out.size hb3)
          have R3 := veil (R2.out.below hb3)
          have HS3 := veil (same_any w3 _ _ (tag key (b.take n16)) (b.drop n16) ho3.rdB.1 (RO.out.below B3.out) (by rw [tag_length]; decide) (by rw [List.length_drop, HN.out]; omega))
          clear ho3 hb3))
      | (go_at_call 15
         go_must (
          with_reducible refine HS3.out.mono ?_
          rw [HTD.out]
          rintro e w' ⟨rfl, n4, rfl⟩)))
    have R4 := veil (R3.out.drewN n4)
    have B4 := veil (below_drewN B3.out n4)
    generalize hww : w3.drewN n4 = w4 at R4 B4 ⊢
    clear hww R3 B3 R2 B2 HTD
    go_wp2_with (first
      | (with_reducible apply wpL_store (vs := [.int .i64 0, .int .i64 0, .slice none 0 0]) (cs := [.int .i64 0, .int .i64 0, .slice none 0 0])
         · rfl
         · rfl
         · exact R4.out
         go_must (
          · exact Nat.le_refl 3
          · (simp [Value.oneCell'])
          · kernel_rfl
          intro w20 hr20 ho20)))
    exact bodyPost_ret (results_ct rfl _ _ _ _ _ _ _ rfl (hr20.whole (n := 3) rfl rfl) Tryd.underlying24 rfl (by kernel_rfl)) rfl ⟨by unfold OpenR; rw [HP.out]; rfl, ((But.of_below (S := fun _ => False) B4.out).only ho20 (.inr (Nat.le_refl _))).below (fun _ _ hf => hf)⟩
end Go.Proofs.YtojffibjjicddaaDoor
